/- More rules: a slice that is nil as an object of its own; results that say less. -/
import Derived.Test.YtmpfgaebmdbdeaaGreatDoorVincN
set_option linter.unusedVariables false
namespace Vinc
open Go Go.RowKit

/-- A slice that is nil, taken as a row of the call's own. -/
theorem ev_nilown {c : Cx} {σ : St} {d : Code} {Q : Exit → St → Prop} (k i : Nat) (hk : σ.t k = .p (.val (.slice none 0 0))) (hi : σ.u i = false)
    (h' : Ev c d Q ⟨upd σ.t k (.own i 0 0 1), upd σ.h i (some (ob64 [])), upd σ.u i true⟩) : Ev c d Q σ := fun L a w I => by
  have hu' : ∀ j, (upd σ.u i true) j = false → σ.u j = false ∧ j ≠ i := by
    intro j hj; simp only [upd] at hj; split at hj
    · cases hj
    · rename_i hne; exact ⟨hj, hne⟩
  have I1 := I.allocNil hi hu' (ob64 []) rfl
  refine h' _ a w ⟨I1.below, I1.defers, I1.size, I1.fresh, I1.live, I1.own, I1.inj, fun j => ?_⟩
  have h1 := I.tmps k
  rw [hk] at h1
  show RepA w _ _ (upd σ.t k _ j) _
  by_cases hj : j = k
  · subst hj
    rw [upd_same]
    exact .inl ⟨upd_same _ _ _, rfl, none, h1⟩
  · rw [upd_ne _ _ hj]
    exact I1.tmps j

theorem callSpec_res {P : Program} {G : Nat → PV} {f : FuncId} {as : List PV} {res res' : PV} (h : PLe res res') (hs : CallSpec P G f as res) : CallSpec P G f as res' :=
  ⟨hs.1, fun w ok vs hok hG hr => (hs.2 w ok vs hok hG hr).mono fun _ _ ⟨v, e, hb, hrep⟩ => ⟨v, e, hb, h _ _ _ hrep⟩⟩

theorem PLe.two2 {x y x' y' : PV} (h1 : PLe x x') (h2 : PLe y y') : PLe (.tup 2 (two x y)) (.tup 2 (two x' y')) := PLe.tup fun j hj => by
  match j, hj with
  | 0, _ => exact h1
  | 1, _ => exact h2

end Vinc
