/-
  DERIVED. GIVEN WITH THE SEED: THE CARDS: each row of YtdafncbodihjhaaGreatDoorRows.lean that lists a variable, with what it lists TIED to the program's text (the seventh form; the later family's looks); each row that meets fmt, with fmt's text TOLD by the authors' own Lean function (tested against real Go, not proved from fmt's source: count such statements apart). THE CARD IS WHAT COUNTS. Prove the row's statement (the work); the ties are given (YtdafncbodihjhaaGreatDoorTie.lean); close each card by the builder's one call (the guide's Derived/Test/ToyasCard.lean, 'card_holds'). Laid BY PROGRAM, IN A SANDBOX (cutbox-door.mjs). By AI agents, Wed Nov 11 2026. No macro, syntax, notation, axiom, sorry.
-/
import Derived.Test.YtdafncbodihjhaaGreatDoorRows
import GoSem.ClaimSeven
namespace Go.Proofs.YtdafncbodihjhaaGreatDoor
namespace Rows

/-- THE TIED CARD OF 'vinculumlaw12.NewtonValues'. -/
def newtonValuesCard : Claim7 := { stood := { row := newtonValuesRow, standIns := [], harness := (true, "75545c6ac239c81f6cf001cc41436449b7dfda334c5bc6bc2a92e6c219c92d9d"), looks := false }, kinds := [], alts := [], laidByText := true, laidKinds := [.data], laidTests := true, laidLooks := .later }
def NewtonValuesCardSaid : Prop := Claim7.holds Tryz.pinned (.plain (OpenSpec.ofChange newtonValuesSpec)) newtonValuesCard

/-- THE TIED CARD OF 'vinculumlaw12.NewtonFits'. -/
def newtonFitsCard : Claim7 := { stood := { row := newtonFitsRow, standIns := [], harness := (true, "75545c6ac239c81f6cf001cc41436449b7dfda334c5bc6bc2a92e6c219c92d9d"), looks := false }, kinds := [], alts := [], laidByText := true, laidKinds := [.data], laidTests := true, laidLooks := .later }
def NewtonFitsCardSaid : Prop := Claim7.holds Tryz.pinned (.plain (OpenSpec.ofChange newtonFitsSpec)) newtonFitsCard

/-- THE TIED CARD OF 'vinculumlaw12.NewtonSums'. -/
def newtonSumsCard : Claim7 := { stood := { row := newtonSumsRow, standIns := [], harness := (true, "75545c6ac239c81f6cf001cc41436449b7dfda334c5bc6bc2a92e6c219c92d9d"), looks := false }, kinds := [], alts := [], laidByText := true, laidKinds := [.data], laidTests := true, laidLooks := .later }
def NewtonSumsCardSaid : Prop := Claim7.holds Tryz.pinned (.plain (OpenSpec.ofChange newtonSumsSpec)) newtonSumsCard

/-- THE TIED CARD OF 'vinculumlaw12.NewtonBack'. -/
def newtonBackCard : Claim7 := { stood := { row := newtonBackRow, standIns := [], harness := (true, "75545c6ac239c81f6cf001cc41436449b7dfda334c5bc6bc2a92e6c219c92d9d"), looks := false }, kinds := [], alts := [], laidByText := true, laidKinds := [.data], laidTests := true, laidLooks := .later }
def NewtonBackCardSaid : Prop := Claim7.holds Tryz.pinned (.plain (OpenSpec.ofChange newtonBackSpec)) newtonBackCard

/-- THE TIED CARD OF 'vinculumlaw12.NewtonPowers'. -/
def newtonPowersCard : Claim7 := { stood := { row := newtonPowersRow, standIns := [], harness := (true, "75545c6ac239c81f6cf001cc41436449b7dfda334c5bc6bc2a92e6c219c92d9d"), looks := false }, kinds := [], alts := [], laidByText := true, laidKinds := [.data], laidTests := true, laidLooks := .later }
def NewtonPowersCardSaid : Prop := Claim7.holds Tryz.pinned (.plain (OpenSpec.ofChange newtonPowersSpec)) newtonPowersCard

/-- THE TIED CARD OF 'vinculumlaw12.NewtonRows'. -/
def newtonRowsCard : Claim7 := { stood := { row := newtonRowsRow, standIns := [], harness := (true, "75545c6ac239c81f6cf001cc41436449b7dfda334c5bc6bc2a92e6c219c92d9d"), looks := false }, kinds := [], alts := [], laidByText := true, laidKinds := [.data], laidTests := true, laidLooks := .later }
def NewtonRowsCardSaid : Prop := Claim7.holds Tryz.pinned (.plain (OpenSpec.ofChange newtonRowsSpec)) newtonRowsCard

/-- THE TIED CARD OF 'vinculumlaw12.NewtonSteady'. -/
def newtonSteadyCard : Claim7 := { stood := { row := newtonSteadyRow, standIns := [], harness := (true, "75545c6ac239c81f6cf001cc41436449b7dfda334c5bc6bc2a92e6c219c92d9d"), looks := false }, kinds := [], alts := [], laidByText := true, laidKinds := [.data], laidTests := true, laidLooks := .later }
def NewtonSteadyCardSaid : Prop := Claim7.holds Tryz.pinned (.plain (OpenSpec.ofChange newtonSteadySpec)) newtonSteadyCard

/-- THE TIED CARD OF 'vinculumlaw12.NewtonNil'. -/
def newtonNilCard : Claim7 := { stood := { row := newtonNilRow, standIns := [], harness := (true, "75545c6ac239c81f6cf001cc41436449b7dfda334c5bc6bc2a92e6c219c92d9d"), looks := false }, kinds := [], alts := [], laidByText := true, laidKinds := [.data], laidTests := true, laidLooks := .later }
def NewtonNilCardSaid : Prop := Claim7.holds Tryz.pinned (.plain (OpenSpec.ofChange newtonNilSpec)) newtonNilCard

/-- THE SECOND FORM's CARD OF 'vinculumlaw12.NewtonValues'. -/
def newtonValuesUptoCard : Claim7 := { stood := { row := newtonValuesUptoRow, standIns := [], harness := (true, "75545c6ac239c81f6cf001cc41436449b7dfda334c5bc6bc2a92e6c219c92d9d"), looks := false }, kinds := [], alts := [], laidByText := true, laidKinds := [.data], laidTests := true, laidLooks := .later }
def NewtonValuesUptoCardSaid : Prop := Claim7.holds Tryz.pinned (.plain (OpenSpec.upto newtonValuesSpec)) newtonValuesUptoCard

/-- THE SECOND FORM's CARD OF 'vinculumlaw12.NewtonFits'. -/
def newtonFitsUptoCard : Claim7 := { stood := { row := newtonFitsUptoRow, standIns := [], harness := (true, "75545c6ac239c81f6cf001cc41436449b7dfda334c5bc6bc2a92e6c219c92d9d"), looks := false }, kinds := [], alts := [], laidByText := true, laidKinds := [.data], laidTests := true, laidLooks := .later }
def NewtonFitsUptoCardSaid : Prop := Claim7.holds Tryz.pinned (.plain (OpenSpec.upto newtonFitsSpec)) newtonFitsUptoCard

/-- THE SECOND FORM's CARD OF 'vinculumlaw12.NewtonSums'. -/
def newtonSumsUptoCard : Claim7 := { stood := { row := newtonSumsUptoRow, standIns := [], harness := (true, "75545c6ac239c81f6cf001cc41436449b7dfda334c5bc6bc2a92e6c219c92d9d"), looks := false }, kinds := [], alts := [], laidByText := true, laidKinds := [.data], laidTests := true, laidLooks := .later }
def NewtonSumsUptoCardSaid : Prop := Claim7.holds Tryz.pinned (.plain (OpenSpec.upto newtonSumsSpec)) newtonSumsUptoCard

/-- THE SECOND FORM's CARD OF 'vinculumlaw12.NewtonBack'. -/
def newtonBackUptoCard : Claim7 := { stood := { row := newtonBackUptoRow, standIns := [], harness := (true, "75545c6ac239c81f6cf001cc41436449b7dfda334c5bc6bc2a92e6c219c92d9d"), looks := false }, kinds := [], alts := [], laidByText := true, laidKinds := [.data], laidTests := true, laidLooks := .later }
def NewtonBackUptoCardSaid : Prop := Claim7.holds Tryz.pinned (.plain (OpenSpec.upto newtonBackSpec)) newtonBackUptoCard

/-- THE SECOND FORM's CARD OF 'vinculumlaw12.NewtonPowers'. -/
def newtonPowersUptoCard : Claim7 := { stood := { row := newtonPowersUptoRow, standIns := [], harness := (true, "75545c6ac239c81f6cf001cc41436449b7dfda334c5bc6bc2a92e6c219c92d9d"), looks := false }, kinds := [], alts := [], laidByText := true, laidKinds := [.data], laidTests := true, laidLooks := .later }
def NewtonPowersUptoCardSaid : Prop := Claim7.holds Tryz.pinned (.plain (OpenSpec.upto newtonPowersSpec)) newtonPowersUptoCard

/-- THE SECOND FORM's CARD OF 'vinculumlaw12.NewtonRows'. -/
def newtonRowsUptoCard : Claim7 := { stood := { row := newtonRowsUptoRow, standIns := [], harness := (true, "75545c6ac239c81f6cf001cc41436449b7dfda334c5bc6bc2a92e6c219c92d9d"), looks := false }, kinds := [], alts := [], laidByText := true, laidKinds := [.data], laidTests := true, laidLooks := .later }
def NewtonRowsUptoCardSaid : Prop := Claim7.holds Tryz.pinned (.plain (OpenSpec.upto newtonRowsSpec)) newtonRowsUptoCard

/-- THE SECOND FORM's CARD OF 'vinculumlaw12.NewtonSteady'. -/
def newtonSteadyUptoCard : Claim7 := { stood := { row := newtonSteadyUptoRow, standIns := [], harness := (true, "75545c6ac239c81f6cf001cc41436449b7dfda334c5bc6bc2a92e6c219c92d9d"), looks := false }, kinds := [], alts := [], laidByText := true, laidKinds := [.data], laidTests := true, laidLooks := .later }
def NewtonSteadyUptoCardSaid : Prop := Claim7.holds Tryz.pinned (.plain (OpenSpec.upto newtonSteadySpec)) newtonSteadyUptoCard

/-- THE SECOND FORM's CARD OF 'vinculumlaw12.NewtonNil'. -/
def newtonNilUptoCard : Claim7 := { stood := { row := newtonNilUptoRow, standIns := [], harness := (true, "75545c6ac239c81f6cf001cc41436449b7dfda334c5bc6bc2a92e6c219c92d9d"), looks := false }, kinds := [], alts := [], laidByText := true, laidKinds := [.data], laidTests := true, laidLooks := .later }
def NewtonNilUptoCardSaid : Prop := Claim7.holds Tryz.pinned (.plain (OpenSpec.upto newtonNilSpec)) newtonNilUptoCard
end Rows
end Go.Proofs.YtdafncbodihjhaaGreatDoor
