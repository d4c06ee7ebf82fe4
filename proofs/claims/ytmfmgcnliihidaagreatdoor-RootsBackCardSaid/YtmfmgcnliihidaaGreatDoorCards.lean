/-
  DERIVED. GIVEN WITH THE SEED: THE CARDS: each row of YtmfmgcnliihidaaGreatDoorRows.lean that lists a variable, with what it lists TIED to the program's text (the seventh form; the later family's looks); each row that meets fmt, with fmt's text TOLD by the authors' own Lean function (tested against real Go, not proved from fmt's source: count such statements apart). THE CARD IS WHAT COUNTS. Prove the row's statement (the work); the ties are given (YtmfmgcnliihidaaGreatDoorTie.lean); close each card by the builder's one call (the guide's Derived/Test/ToyasCard.lean, 'card_holds'). Laid BY PROGRAM, IN A SANDBOX (cutbox-door.mjs). By AI agents, Wed Nov 11 2026. No macro, syntax, notation, axiom, sorry.
-/
import Derived.Test.YtmfmgcnliihidaaGreatDoorRows
import GoSem.ClaimSeven
namespace Go.Proofs.YtmfmgcnliihidaaGreatDoor
namespace Rows

/-- THE TIED CARD OF 'vinculumlaw11.RootsTimes'. -/
def rootsTimesCard : Claim7 := { stood := { row := rootsTimesRow, standIns := [], harness := (true, "eb790f6518735e0558619291c116b35c4b265b6f7eb5c37db4fe30451424be18"), looks := false }, kinds := [], alts := [], laidByText := true, laidKinds := [.data], laidTests := true, laidLooks := .later }
def RootsTimesCardSaid : Prop := Claim7.holds Tryz.pinned (.plain (OpenSpec.ofChange rootsTimesSpec)) rootsTimesCard

/-- THE TIED CARD OF 'vinculumlaw11.RootsBack'. -/
def rootsBackCard : Claim7 := { stood := { row := rootsBackRow, standIns := [], harness := (true, "eb790f6518735e0558619291c116b35c4b265b6f7eb5c37db4fe30451424be18"), looks := false }, kinds := [], alts := [], laidByText := true, laidKinds := [.data], laidTests := true, laidLooks := .later }
def RootsBackCardSaid : Prop := Claim7.holds Tryz.pinned (.plain (OpenSpec.ofChange rootsBackSpec)) rootsBackCard

/-- THE SECOND FORM's CARD OF 'vinculumlaw11.RootsTimes'. -/
def rootsTimesUptoCard : Claim7 := { stood := { row := rootsTimesUptoRow, standIns := [], harness := (true, "eb790f6518735e0558619291c116b35c4b265b6f7eb5c37db4fe30451424be18"), looks := false }, kinds := [], alts := [], laidByText := true, laidKinds := [.data], laidTests := true, laidLooks := .later }
def RootsTimesUptoCardSaid : Prop := Claim7.holds Tryz.pinned (.plain (OpenSpec.upto rootsTimesSpec)) rootsTimesUptoCard

/-- THE SECOND FORM's CARD OF 'vinculumlaw11.RootsBack'. -/
def rootsBackUptoCard : Claim7 := { stood := { row := rootsBackUptoRow, standIns := [], harness := (true, "eb790f6518735e0558619291c116b35c4b265b6f7eb5c37db4fe30451424be18"), looks := false }, kinds := [], alts := [], laidByText := true, laidKinds := [.data], laidTests := true, laidLooks := .later }
def RootsBackUptoCardSaid : Prop := Claim7.holds Tryz.pinned (.plain (OpenSpec.upto rootsBackSpec)) rootsBackUptoCard
end Rows
end Go.Proofs.YtmfmgcnliihidaaGreatDoor
