/- What the listed table gives the walks: the variable's cells are the table's numbers. -/
import Derived.Test.YtmpfgaebmdbdeaaGreatDoorTie
import Derived.Test.YtmpfgaebmdbdeaaGreatDoorTypes
import Derived.LaidMore
import Derived.Stop.Joined
import Derived.Lib.LaidTab
namespace Go.Proofs.YtmpfgaebmdbdeaaGreatDoor
open Go Go.RowKit Vinc

/-- The list of what is laid. -/
abbrev laidL : List (String × DataW Unit) := [("math/bits.deBruijn64tab", Rows.laid_math_bits_deBruijn64tab)]

theorem gTab : Tryz.prog.globalNamed "math/bits.deBruijn64tab" = some 2 := by kernel_rfl
theorem gTabT : (Tryz.prog.globals[2]?).map (·.type) = some 106 := by kernel_rfl

/-- The table as a list of integers. -/
def zs64 : List Int := Vinc.Num.tab64.map fun n => ((n : Nat) : Int)

theorem laid_eq : laidL = [("math/bits.deBruijn64tab", Lib.tabData .u8 zs64)] := by kernel_rfl

/-- The door's own heap meets the condition. -/
theorem door_met (os : Os) (args : Array Value) : laidMetH Tryz.prog laidL ((World.doorLaid Tryz.prog 400 os).forCall (fun _ _ => 0) ⟨#[], args, []⟩).memory :=
  laidMetH_of_parts3 (fuel := 8) (laidMet_of_run' 8 (by kernel_rfl) (by kernel_rfl)) (by kernel_rfl) (by kernel_rfl)

/-- What is known of the variables. -/
theorem tab_of {W : World} (h : laidMetH Tryz.prog laidL W) : ∀ g, Rep W (fun b => b < W.heap.size) (Tryz.G0 g) (gptr g) := by
  rw [MakeChecks.laidMetH_plain _ _ _ (by kernel_rfl), laid_eq] at h
  have hT := Lib.tabIs_of_head gTab gTabT (show Tryz.prog.underlying 106 = some (.array 64 5) by kernel_rfl) (show Tryz.prog.underlying 5 = some (.int .u8) by kernel_rfl) (by kernel_rfl) (by kernel_rfl) h
  have hc : ∀ j, j < 64 → W.cell? ⟨2, j, none⟩ = some (.int .u8 ((Vinc.Num.tab64.getD j 0 : Nat) : Int)) := fun j hj => by
    have := hT.cell gTab j hj
    rw [this]
    congr 2
    show (Vinc.Num.tab64.map fun n => ((n : Nat) : Int)).getD j 0 = _
    rw [List.getD_eq_getElem?_getD, List.getD_eq_getElem?_getD, List.getElem?_map]
    cases Vinc.Num.tab64[j]? <;> rfl
  intro g
  show Rep W _ (bif Nat.beq g 2 then .ptr 64 (fun j => .val (.int .u8 ((Vinc.Num.tab64.getD j 0 : Nat) : Int))) 0 else .any) _
  cases hg : Nat.beq g 2 with
  | false => exact trivial
  | true =>
    obtain rfl : g = 2 := Nat.eq_of_beq_eq_true hg
    refine ⟨2, 0, rfl, ?_, fun j hj => ⟨_, (by rw [Nat.zero_add]; exact hc j hj), rfl, rfl⟩⟩
    have h0 := hc 0 (by decide)
    rcases Nat.lt_or_ge 2 W.heap.size with h | h
    · exact h
    · have hn : W.heap[2]? = none := Array.getElem?_eq_none h
      simp [World.cell?, hn] at h0

end Go.Proofs.YtmpfgaebmdbdeaaGreatDoor
