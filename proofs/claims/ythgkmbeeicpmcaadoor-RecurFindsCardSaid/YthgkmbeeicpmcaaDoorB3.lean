/- Part 3 of the proof's texts, joined: VincZ. -/
import Derived.Test.YthgkmbeeicpmcaaDoorB2

/- Rows of the call's own of which there are as many as one likes: their numbers stand from 200 on. -/
set_option linter.unusedVariables false
namespace Vinc
open Go Go.RowKit

/-- Below d as 'lo' says, from d on as G says. -/
def famO {α : Type} (lo : α) (G : Nat → α) : Nat → Nat → α
  | 0, q => G q
  | _ + 1, 0 => lo
  | d + 1, q + 1 => famO lo G d q

theorem famO_lo {α : Type} {lo : α} {G : Nat → α} : ∀ {d q : Nat}, q < d → famO lo G d q = lo
  | 0, q, h => absurd h (Nat.not_lt_zero q)
  | d + 1, 0, _ => rfl
  | d + 1, q + 1, h => famO_lo (d := d) (q := q) (by omega)

theorem famO_hi {α : Type} {lo : α} {G : Nat → α} : ∀ (d x : Nat), famO lo G d (x + d) = G x
  | 0, x => rfl
  | d + 1, x => famO_hi d x

theorem famO_ge {α : Type} {lo : α} {G : Nat → α} {d q : Nat} (h : d ≤ q) : famO lo G d q = G (q - d) := by
  have := famO_hi (lo := lo) (G := G) d (q - d)
  rwa [Nat.sub_add_cancel h] at this

def famH (hs : List (Nat × Ob)) (R : Nat → List Nat) : Nat → Option Ob := fun q => famO (hOf hs q) (fun x => some (ob64 (R x))) 200 q
def famU (hs : List (Nat × Ob)) : Nat → Bool := fun q => famO (uOf hs q) (fun _ => true) 200 q

/-- A state with such rows. -/
abbrev mkF (l : List (Nat × AV)) (hs : List (Nat × Ob)) (R : Nat → List Nat) : St := ⟨tOf l, famH hs R, famU hs⟩

theorem famH_lo {hs : List (Nat × Ob)} {R : Nat → List Nat} {q : Nat} (h : q < 200) : famH hs R q = hOf hs q := famO_lo h
theorem famH_hi (hs : List (Nat × Ob)) (R : Nat → List Nat) (x : Nat) : famH hs R (x + 200) = some (ob64 (R x)) := famO_hi 200 x
theorem famH_ge {hs : List (Nat × Ob)} {R : Nat → List Nat} {q : Nat} (h : 200 ≤ q) : famH hs R q = some (ob64 (R (q - 200))) := famO_ge h

theorem famU_eq (hs : List (Nat × Ob)) (R : Nat → List Nat) (i : Nat) : famU hs i = (famH hs R i).isSome := by
  rcases Nat.lt_or_ge i 200 with h | h
  · rw [famH_lo h, show famU hs i = uOf hs i from famO_lo h, uOf_eq]
  · rw [famH_ge h, show famU hs i = true from famO_ge h]; rfl

variable {c : Cx} {σ : St} {Q : Exit → St → Prop}

/-- Which numbers stand for objects. -/
def InF (hs : List (Nat × Ob)) (i : Nat) : Prop := (i < 200 ∧ i ∈ hs.map (·.1)) ∨ 200 ≤ i

theorem inF_of {hs : List (Nat × Ob)} {R : Nat → List Nat} {i : Nat} (h : (famH hs R i).isSome = true) : InF hs i := by
  rcases Nat.lt_or_ge i 200 with h2 | h2
  · rw [famH_lo h2] at h
    exact .inl ⟨h2, hOf_mem i h⟩
  · exact .inr h2

theorem renF {l : List (Nat × AV)} {hs : List (Nat × Ob)} {R : Nat → List Nat} {ρ : Nat → Nat} (h : ∀ p ∈ hs, (σ.h (ρ p.1)).isSome = true) (hf : ∀ x, (σ.h (ρ (x + 200))).isSome = true) : Ren σ (mkF l hs R) ρ := fun i hi => by
  rcases Nat.lt_or_ge i 200 with h2 | h2
  · have hi : (famH hs R i).isSome = true := hi
    rw [famH_lo h2] at hi
    obtain ⟨p, hp, rfl⟩ := List.mem_map.mp (hOf_mem i hi)
    exact h p hp
  · have := hf (i - 200)
    rwa [Nat.sub_add_cancel h2] at this

theorem wk_F {l : List (Nat × AV)} {hs : List (Nat × Ob)} {R : Nat → List Nat} (ρ : Nat → Nat) (h : ∀ p ∈ hs, (σ.h (ρ p.1)).isSome = true)
    (hf : ∀ x, ∃ o, σ.h (ρ (x + 200)) = some o ∧ (R x).length ≤ o.n ∧ ∀ j, j < (R x).length → o.f j = .p (u64 ((R x).getD j 0)))
    (ht : Ren σ (mkF l hs R) ρ → Slots c σ (mkF l hs R) ρ l) (ho : Ren σ (mkF l hs R) ρ → Obs c σ (mkF l hs R) ρ hs)
    (hi : ∀ i j, InF hs i → InF hs j → ρ i = ρ j → i = j) : Wk c σ (mkF l hs R) := by
  have hd : Ren σ (mkF l hs R) ρ := renF h fun x => by
    obtain ⟨o, h1, _⟩ := hf x
    rw [h1]; rfl
  refine wk_of ρ (slots_get (ht hd)) (fun i o' hio => ?_) (fun i j h1 h2 he => hi i j (inF_of h1) (inF_of h2) he) (fun i => famU_eq hs R i)
  have hio : famH hs R i = some o' := hio
  rcases Nat.lt_or_ge i 200 with h2 | h2
  · rw [famH_lo h2] at hio
    exact obs_get (ho hd) i o' hio
  · rw [famH_ge h2] at hio
    obtain rfl := Option.some.inj hio
    obtain ⟨o, h1, h3, h4⟩ := hf (i - 200)
    rw [Nat.sub_add_cancel h2] at h1
    refine ⟨o, h1, h3, fun j hj => ?_⟩
    rw [h4 j hj]
    exact le_refl hd _

/-- No rows yet: as many as one likes, all of them nowhere. -/
theorem ev_fam {d : Code} (hu : ∀ x, σ.u (x + 200) = false) (h' : Ev c d Q ⟨σ.t, fun q => famO (σ.h q) (fun _ => some (ob64 [])) 200 q, fun q => famO (σ.u q) (fun _ => true) 200 q⟩) : Ev c d Q σ := fun L a w I => by
  have hge : ∀ q, 200 ≤ q → σ.u q = false := fun q hq => by
    have := hu (q - 200)
    rwa [Nat.sub_add_cancel hq] at this
  have hLn : ∀ q, 200 ≤ q → L q = none := fun q hq => I.fresh q (hge q hq)
  have hhn : ∀ q, 200 ≤ q → σ.h q = none := fun q hq => by
    cases h : σ.h q with
    | none => rfl
    | some o => obtain ⟨B, hB, _⟩ := I.live q o h; rw [hLn q hq] at hB; cases hB
  obtain ⟨L', hL'⟩ : ∃ L' : Locs, L' = fun q => famO (L q) (fun _ => some none) 200 q := ⟨_, rfl⟩
  have lo : ∀ q, q < 200 → L' q = L q := fun q hq => by rw [hL']; exact famO_lo hq
  have hi : ∀ q, 200 ≤ q → L' q = some none := fun q hq => by rw [hL']; exact famO_ge hq
  let σ' : St := ⟨σ.t, fun q => famO (σ.h q) (fun _ => some (ob64 [])) 200 q, fun q => famO (σ.u q) (fun _ => true) 200 q⟩
  have hlo : ∀ q, q < 200 → σ'.h q = σ.h q := fun q hq => famO_lo hq
  have hhi : ∀ q, 200 ≤ q → σ'.h q = some (ob64 []) := fun q hq => famO_ge hq
  have hL : ∀ i B, L i = some B → L' i = some B := fun i B h => by
    rcases Nat.lt_or_ge i 200 with h2 | h2
    · rw [lo i h2]; exact h
    · rw [hLn i h2] at h; cases h
  have hok : ∀ b, σ.ok c L w b → σ'.ok c L' w b := by
    intro b hb
    refine ⟨hb.1, fun ⟨i, hi1, hLi⟩ => ?_⟩
    rcases Nat.lt_or_ge i 200 with h2 | h2
    · rw [hlo i h2] at hi1
      rw [lo i h2] at hLi
      exact hb.2 ⟨i, hi1, hLi⟩
    · rw [hi i h2] at hLi; cases hLi
  have hr := RowsKept.refl w L
  have hmono := RepA.mono (w := w) (fun _ _ => rfl) hok hL hr
  refine h' L' a w (I.step (σ := σ) (h' := σ'.h) (u' := σ'.u) (BelowX.refl _ _ _) (fun _ _ => rfl) hok hL hr (fun i hu' => ?_) (fun i o' ho' => ?_) (fun i B hB => ?_) (fun i j B h1 h2 hBi hBj => ?_))
  · rcases Nat.lt_or_ge i 200 with h2 | h2
    · have : σ.u i = false := by
        have e : σ'.u i = σ.u i := famO_lo h2
        rwa [e] at hu'
      rw [lo i h2]; exact I.fresh i this
    · have e : σ'.u i = true := famO_ge h2
      rw [e] at hu'; cases hu'
  · rcases Nat.lt_or_ge i 200 with h2 | h2
    · rw [hlo i h2] at ho'
      obtain ⟨B, hB, hat⟩ := I.live i o' ho'
      exact ⟨B, by rw [lo i h2]; exact hB, hat.mono (fun _ _ => rfl) hmono⟩
    · rw [hhi i h2] at ho'
      obtain rfl := Option.some.inj ho'
      exact ⟨none, hi i h2, rfl⟩
  · rcases Nat.lt_or_ge i 200 with h2 | h2
    · rw [lo i h2] at hB; exact I.own i B hB
    · rw [hi i h2] at hB; cases hB
  · rcases Nat.lt_or_ge i 200 with h3 | h3
    · rcases Nat.lt_or_ge j 200 with h4 | h4
      · rw [hlo i h3] at h1
        rw [hlo j h4] at h2
        rw [lo i h3] at hBi
        rw [lo j h4] at hBj
        exact I.inj i j B h1 h2 hBi hBj
      · rw [hi j h4] at hBj; cases hBj
    · rw [hi i h3] at hBi; cases hBi

/-! ### loops and parts over any states -/

def AtS {α : Type} (P : α → Prop) (S : α → St) : St → Prop := fun s => ∃ a, P a ∧ s = S a

theorem ev_atS {x y : Code} {α : Type} (P : α → Prop) (S : α → St) (h : Ev c x (Mid c (AtS P S) Q) σ) (h' : ∀ a, P a → Ev c y Q (S a)) : Ev c (.seq x y) Q σ := ev_mid _ h fun s ⟨a, ha, e⟩ => by subst e; exact h' a ha

theorem atS {α : Type} {P : α → Prop} {S : α → St} (a : α) (hP : P a) (h : Wk c σ (S a)) : MidN c (AtS P S) σ := ⟨_, h, a, hP, rfl⟩

def RoundS (c : Cx) {α : Type} (P : α → Prop) (S : α → St) (μ : α → Nat) (a : α) (Q : Exit → St → Prop) : Exit → St → Prop
  | .normal, s => ∃ b, P b ∧ μ b < μ a ∧ Wk c s (S b)
  | e, s => Q e s

theorem ev_whileS {d : Code} {α : Type} (P : α → Prop) (S : α → St) (μ : α → Nat) (a : α) (hP : P a) (hw : Wk c σ (S a)) (h : ∀ a, P a → Ev c d (RoundS c P S μ a Q) (S a)) : Ev c (.loop d) Q σ := by
  have key : ∀ n a, μ a = n → P a → EvL c d Q (S a) := by
    intro n
    induction n using Nat.strongRecOn with
    | ind n ih =>
      intro a ha hPa
      refine evl_step (ev_mono (h a hPa) fun e s hq => ?_)
      cases e
      case normal =>
        obtain ⟨b, hb, hlt, hw'⟩ := hq
        exact evl_wk hw' (ih (μ b) (ha ▸ hlt) b rfl hb)
      all_goals exact hq
  exact ev_wk hw (ev_loop (key _ a rfl hP))

theorem Wk.refl : Wk c σ σ := fun L a w I => ⟨L, I⟩

/-- Numbers below 200 by g, the rows' by G. -/
abbrev famR (g G : Nat → Nat) : Nat → Nat := fun i => famO (g i) G 200 i

theorem wk_G {l : List (Nat × AV)} {hs : List (Nat × Ob)} {R : Nat → List Nat} (g G : Nat → Nat) (hlt : ∀ p ∈ hs, p.1 < 200) (h : ∀ p ∈ hs, (σ.h (g p.1)).isSome = true)
    (hf : ∀ x, ∃ o, σ.h (G x) = some o ∧ (R x).length ≤ o.n ∧ ∀ j, j < (R x).length → o.f j = .p (u64 ((R x).getD j 0)))
    (ht : Ren σ (mkF l hs R) (famR g G) → Slots c σ (mkF l hs R) (famR g G) l) (ho : Ren σ (mkF l hs R) (famR g G) → Obs c σ (mkF l hs R) (famR g G) hs)
    (hg : ∀ p ∈ hs, ∀ q ∈ hs, g p.1 = g q.1 → p.1 = q.1) (hG : ∀ x y, G x = G y → x = y) (hgG : ∀ p ∈ hs, ∀ x, g p.1 ≠ G x) : Wk c σ (mkF l hs R) := by
  have lo : ∀ i, i < 200 → famR g G i = g i := fun i hi => famO_lo hi
  have hi : ∀ i, 200 ≤ i → famR g G i = G (i - 200) := fun i hi => famO_ge hi
  refine wk_F (famR g G) (fun p hp => ?_) (fun x => ?_) ht ho (fun i j h1 h2 he => ?_)
  · rw [lo _ (hlt p hp)]; exact h p hp
  · rw [hi _ (Nat.le_add_left _ _), Nat.add_sub_cancel]; exact hf x
  · rcases h1 with ⟨a1, a2⟩ | a1 <;> rcases h2 with ⟨b1, b2⟩ | b1
    · obtain ⟨p, hp, rfl⟩ := List.mem_map.mp a2
      obtain ⟨q, hq, rfl⟩ := List.mem_map.mp b2
      rw [lo _ a1, lo _ b1] at he
      exact hg p hp q hq he
    · obtain ⟨p, hp, rfl⟩ := List.mem_map.mp a2
      rw [lo _ a1, hi _ b1] at he
      exact absurd he (hgG p hp _)
    · obtain ⟨q, hq, rfl⟩ := List.mem_map.mp b2
      rw [hi _ a1, lo _ b1] at he
      exact absurd he.symm (hgG q hq _)
    · rw [hi _ a1, hi _ b1] at he
      have := hG _ _ he
      omega

/-- All numbers as they were. -/
theorem wk_I {l : List (Nat × AV)} {hs : List (Nat × Ob)} {R : Nat → List Nat} (h : ∀ p ∈ hs, (σ.h p.1).isSome = true)
    (hf : ∀ x, ∃ o, σ.h (x + 200) = some o ∧ (R x).length ≤ o.n ∧ ∀ j, j < (R x).length → o.f j = .p (u64 ((R x).getD j 0)))
    (ht : Ren σ (mkF l hs R) (fun i => i) → Slots c σ (mkF l hs R) (fun i => i) l) (ho : Ren σ (mkF l hs R) (fun i => i) → Obs c σ (mkF l hs R) (fun i => i) hs) : Wk c σ (mkF l hs R) :=
  wk_F (fun i => i) h hf ht ho (fun _ _ _ _ h => h)

/-- The rows as they were. -/
theorem fam_kept {R : Nat → List Nat} (h : ∀ x, σ.h (x + 200) = some (ob64 (R x))) (x : Nat) : ∃ o, σ.h (x + 200) = some o ∧ (R x).length ≤ o.n ∧ ∀ j, j < (R x).length → o.f j = .p (u64 ((R x).getD j 0)) :=
  ⟨_, h x, Nat.le_refl _, fun _ _ => rfl⟩

theorem fam_at {j i : Nat} {r r' : List Nat} (hi : j = i) (h : σ.h i = some (ob64 r)) (e : r = r') : ∃ o, σ.h j = some o ∧ r'.length ≤ o.n ∧ ∀ q, q < r'.length → o.f q = .p (u64 (r'.getD q 0)) := by
  subst hi
  subst e
  exact ⟨_, h, Nat.le_refl _, fun _ _ => rfl⟩

/-- Cells that show rows. -/
theorem le_row {l : List (Nat × AV)} {hs : List (Nat × Ob)} {R : Nat → List Nat} {x n s : Nat} : Le c σ (mkF l hs R) (fun i => i) (.own (x + 200) 0 n s) (.own (x + 200) 0 n s) :=
  le_own (ρ := fun i => i) (i := x + 200) (by show (famH hs R (x + 200)).isSome = true; rw [famH_hi]; rfl)

theorem le_rowE {l : List (Nat × AV)} {hs : List (Nat × Ob)} {R : Nat → List Nat} {x y n n' s : Nat} (h : y = x) (hn : n = n') : Le c σ (mkF l hs R) (fun i => i) (.own (y + 200) 0 n s) (.own (x + 200) 0 n' s) := by
  subst h
  subst hn
  exact le_row

/-- Cells of a row to which one was put. -/
theorem le_appF1 {ρ : Nat → Nat} {σ' : St} {n j : Nat} {f g : Nat → AV} {y : AV} (hj : j < n + 1) (hl : j < n → Le c σ σ' ρ (f j) y) (hr : j = n → Le c σ σ' ρ (g 0) y) : Le c σ σ' ρ (appF n f g j) y := by
  unfold appF
  split
  · exact hl (by assumption)
  · rw [show j - n = 0 by omega]
    exact hr (by omega)

theorem le_ownG {ρ : Nat → Nat} {σ' : St} {i i' n n' s : Nat} (hs : (σ'.h i).isSome = true) (h : i' = ρ i) (hn : n = n') : Le c σ σ' ρ (.own i' 0 n s) (.own i 0 n' s) := by
  subst h
  subst hn
  exact le_own hs

theorem le_rowG {l : List (Nat × AV)} {hs : List (Nat × Ob)} {R : Nat → List Nat} {g G : Nat → Nat} {i x n n' s : Nat} (h : i = G x) (hn : n = n') : Le c σ (mkF l hs R) (famR g G) (.own i 0 n s) (.own (x + 200) 0 n' s) := by
  subst hn
  have := le_own (c := c) (σ := σ) (σ' := mkF l hs R) (ρ := famR g G) (i := x + 200) (off := 0) (n := n) (s := s) (by show (famH hs R (x + 200)).isSome = true; rw [famH_hi]; rfl)
  rw [show famR g G (x + 200) = i from (famO_hi 200 x).trans h.symm] at this
  exact this

end Vinc
