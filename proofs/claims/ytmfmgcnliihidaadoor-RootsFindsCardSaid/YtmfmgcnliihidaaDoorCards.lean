/-
  DERIVED. GIVEN WITH THE SEED: THE CARDS: each row of YtmfmgcnliihidaaDoorRows.lean that lists a variable, with what it lists TIED to the program's text (the seventh form; the later family's looks); each row that meets fmt, with fmt's text TOLD by the authors' own Lean function (tested against real Go, not proved from fmt's source: count such statements apart). THE CARD IS WHAT COUNTS. Prove the row's statement (the work); the ties are given (YtmfmgcnliihidaaDoorTie.lean); close each card by the builder's one call (the guide's Derived/Test/ToyasCard.lean, 'card_holds'). Laid BY PROGRAM, IN A SANDBOX (cutbox-door.mjs). By AI agents, Wed Nov 11 2026. No macro, syntax, notation, axiom, sorry.
-/
import Derived.Test.YtmfmgcnliihidaaDoorRows
import GoSem.ClaimSeven
namespace Go.Proofs.YtmfmgcnliihidaaDoor
namespace Rows

/-- THE TIED CARD OF 'vinculumlaw11.RootsFinds'. -/
def rootsFindsCard : Claim7 := { stood := { row := rootsFindsRow, standIns := [], harness := (true, "06234d13ed855f6244b01e4168ae7704837410cd1cc3188835be4b89a8459099"), looks := false }, kinds := [], alts := [], laidByText := true, laidKinds := [.data], laidTests := true, laidLooks := .later }
def RootsFindsCardSaid : Prop := Claim7.holds Tryd.pinned (.plain (OpenSpec.ofChange rootsFindsSpec)) rootsFindsCard

/-- THE TIED CARD OF 'vinculumlaw11.RootsOnly'. -/
def rootsOnlyCard : Claim7 := { stood := { row := rootsOnlyRow, standIns := [], harness := (true, "06234d13ed855f6244b01e4168ae7704837410cd1cc3188835be4b89a8459099"), looks := false }, kinds := [], alts := [], laidByText := true, laidKinds := [.data], laidTests := true, laidLooks := .later }
def RootsOnlyCardSaid : Prop := Claim7.holds Tryd.pinned (.plain (OpenSpec.ofChange rootsOnlySpec)) rootsOnlyCard

/-- THE TIED CARD OF 'vinculumlaw11.RootsSquares'. -/
def rootsSquaresCard : Claim7 := { stood := { row := rootsSquaresRow, standIns := [], harness := (true, "06234d13ed855f6244b01e4168ae7704837410cd1cc3188835be4b89a8459099"), looks := false }, kinds := [], alts := [], laidByText := true, laidKinds := [.data], laidTests := true, laidLooks := .later }
def RootsSquaresCardSaid : Prop := Claim7.holds Tryd.pinned (.plain (OpenSpec.ofChange rootsSquaresSpec)) rootsSquaresCard

/-- THE TIED CARD OF 'vinculumlaw11.RootsTells'. -/
def rootsTellsCard : Claim7 := { stood := { row := rootsTellsRow, standIns := [], harness := (true, "06234d13ed855f6244b01e4168ae7704837410cd1cc3188835be4b89a8459099"), looks := false }, kinds := [], alts := [], laidByText := true, laidKinds := [.data], laidTests := true, laidLooks := .later }
def RootsTellsCardSaid : Prop := Claim7.holds Tryd.pinned (.plain (OpenSpec.ofChange rootsTellsSpec)) rootsTellsCard

/-- THE SECOND FORM's CARD OF 'vinculumlaw11.RootsFinds'. -/
def rootsFindsUptoCard : Claim7 := { stood := { row := rootsFindsUptoRow, standIns := [], harness := (true, "06234d13ed855f6244b01e4168ae7704837410cd1cc3188835be4b89a8459099"), looks := false }, kinds := [], alts := [], laidByText := true, laidKinds := [.data], laidTests := true, laidLooks := .later }
def RootsFindsUptoCardSaid : Prop := Claim7.holds Tryd.pinned (.plain (OpenSpec.upto rootsFindsSpec)) rootsFindsUptoCard

/-- THE SECOND FORM's CARD OF 'vinculumlaw11.RootsOnly'. -/
def rootsOnlyUptoCard : Claim7 := { stood := { row := rootsOnlyUptoRow, standIns := [], harness := (true, "06234d13ed855f6244b01e4168ae7704837410cd1cc3188835be4b89a8459099"), looks := false }, kinds := [], alts := [], laidByText := true, laidKinds := [.data], laidTests := true, laidLooks := .later }
def RootsOnlyUptoCardSaid : Prop := Claim7.holds Tryd.pinned (.plain (OpenSpec.upto rootsOnlySpec)) rootsOnlyUptoCard

/-- THE SECOND FORM's CARD OF 'vinculumlaw11.RootsSquares'. -/
def rootsSquaresUptoCard : Claim7 := { stood := { row := rootsSquaresUptoRow, standIns := [], harness := (true, "06234d13ed855f6244b01e4168ae7704837410cd1cc3188835be4b89a8459099"), looks := false }, kinds := [], alts := [], laidByText := true, laidKinds := [.data], laidTests := true, laidLooks := .later }
def RootsSquaresUptoCardSaid : Prop := Claim7.holds Tryd.pinned (.plain (OpenSpec.upto rootsSquaresSpec)) rootsSquaresUptoCard

/-- THE SECOND FORM's CARD OF 'vinculumlaw11.RootsTells'. -/
def rootsTellsUptoCard : Claim7 := { stood := { row := rootsTellsUptoRow, standIns := [], harness := (true, "06234d13ed855f6244b01e4168ae7704837410cd1cc3188835be4b89a8459099"), looks := false }, kinds := [], alts := [], laidByText := true, laidKinds := [.data], laidTests := true, laidLooks := .later }
def RootsTellsUptoCardSaid : Prop := Claim7.holds Tryd.pinned (.plain (OpenSpec.upto rootsTellsSpec)) rootsTellsUptoCard
end Rows
end Go.Proofs.YtmfmgcnliihidaaDoor
