/-
  DERIVED. GIVEN WITH THE SEED: THE CARDS: each row of YtmpfgaebmdbdeaaGreatDoorRows.lean that lists a variable, with what it lists TIED to the program's text (the seventh form; the later family's looks); each row that meets fmt, with fmt's text TOLD by the authors' own Lean function (tested against real Go, not proved from fmt's source: count such statements apart). THE CARD IS WHAT COUNTS. Prove the row's statement (the work); the ties are given (YtmpfgaebmdbdeaaGreatDoorTie.lean); close each card by the builder's one call (the guide's Derived/Test/ToyasCard.lean, 'card_holds'). Laid BY PROGRAM, IN A SANDBOX (cutbox-door.mjs). By AI agents, Wed Nov 11 2026. No macro, syntax, notation, axiom, sorry.
-/
import Derived.Test.YtmpfgaebmdbdeaaGreatDoorRows
import GoSem.ClaimSeven
namespace Go.Proofs.YtmpfgaebmdbdeaaGreatDoor
namespace Rows

/-- THE TIED CARD OF 'vinculumlaw09.UpolyMuls'. -/
def upolyMulsCard : Claim7 := { stood := { row := upolyMulsRow, standIns := [], harness := (true, "d05bbbbc4af7b002a719d83e803355e738b8cda95fc3c3e50ba2531fbff7ed6d"), looks := false }, kinds := [], alts := [], laidByText := true, laidKinds := [.data], laidTests := true, laidLooks := .later }
def UpolyMulsCardSaid : Prop := Claim7.holds Tryz.pinned (.plain (OpenSpec.ofChange upolyMulsSpec)) upolyMulsCard

/-- THE TIED CARD OF 'vinculumlaw09.UpolyWays'. -/
def upolyWaysCard : Claim7 := { stood := { row := upolyWaysRow, standIns := [], harness := (true, "d05bbbbc4af7b002a719d83e803355e738b8cda95fc3c3e50ba2531fbff7ed6d"), looks := false }, kinds := [], alts := [], laidByText := true, laidKinds := [.data], laidTests := true, laidLooks := .later }
def UpolyWaysCardSaid : Prop := Claim7.holds Tryz.pinned (.plain (OpenSpec.ofChange upolyWaysSpec)) upolyWaysCard

/-- THE TIED CARD OF 'vinculumlaw09.UpolyBack'. -/
def upolyBackCard : Claim7 := { stood := { row := upolyBackRow, standIns := [], harness := (true, "d05bbbbc4af7b002a719d83e803355e738b8cda95fc3c3e50ba2531fbff7ed6d"), looks := false }, kinds := [], alts := [], laidByText := true, laidKinds := [.data], laidTests := true, laidLooks := .later }
def UpolyBackCardSaid : Prop := Claim7.holds Tryz.pinned (.plain (OpenSpec.ofChange upolyBackSpec)) upolyBackCard

/-- THE TIED CARD OF 'vinculumlaw09.UpolyRing'. -/
def upolyRingCard : Claim7 := { stood := { row := upolyRingRow, standIns := [], harness := (true, "d05bbbbc4af7b002a719d83e803355e738b8cda95fc3c3e50ba2531fbff7ed6d"), looks := false }, kinds := [], alts := [], laidByText := true, laidKinds := [.data], laidTests := true, laidLooks := .later }
def UpolyRingCardSaid : Prop := Claim7.holds Tryz.pinned (.plain (OpenSpec.ofChange upolyRingSpec)) upolyRingCard

/-- THE TIED CARD OF 'vinculumlaw09.UpolyBezout'. -/
def upolyBezoutCard : Claim7 := { stood := { row := upolyBezoutRow, standIns := [], harness := (true, "d05bbbbc4af7b002a719d83e803355e738b8cda95fc3c3e50ba2531fbff7ed6d"), looks := false }, kinds := [], alts := [], laidByText := true, laidKinds := [.data], laidTests := true, laidLooks := .later }
def UpolyBezoutCardSaid : Prop := Claim7.holds Tryz.pinned (.plain (OpenSpec.ofChange upolyBezoutSpec)) upolyBezoutCard

/-- THE TIED CARD OF 'vinculumlaw09.UpolyNil'. -/
def upolyNilCard : Claim7 := { stood := { row := upolyNilRow, standIns := [], harness := (true, "d05bbbbc4af7b002a719d83e803355e738b8cda95fc3c3e50ba2531fbff7ed6d"), looks := false }, kinds := [], alts := [], laidByText := true, laidKinds := [.data], laidTests := true, laidLooks := .later }
def UpolyNilCardSaid : Prop := Claim7.holds Tryz.pinned (.plain (OpenSpec.ofChange upolyNilSpec)) upolyNilCard

/-- THE SECOND FORM's CARD OF 'vinculumlaw09.UpolyMuls'. -/
def upolyMulsUptoCard : Claim7 := { stood := { row := upolyMulsUptoRow, standIns := [], harness := (true, "d05bbbbc4af7b002a719d83e803355e738b8cda95fc3c3e50ba2531fbff7ed6d"), looks := false }, kinds := [], alts := [], laidByText := true, laidKinds := [.data], laidTests := true, laidLooks := .later }
def UpolyMulsUptoCardSaid : Prop := Claim7.holds Tryz.pinned (.plain (OpenSpec.upto upolyMulsSpec)) upolyMulsUptoCard

/-- THE SECOND FORM's CARD OF 'vinculumlaw09.UpolyWays'. -/
def upolyWaysUptoCard : Claim7 := { stood := { row := upolyWaysUptoRow, standIns := [], harness := (true, "d05bbbbc4af7b002a719d83e803355e738b8cda95fc3c3e50ba2531fbff7ed6d"), looks := false }, kinds := [], alts := [], laidByText := true, laidKinds := [.data], laidTests := true, laidLooks := .later }
def UpolyWaysUptoCardSaid : Prop := Claim7.holds Tryz.pinned (.plain (OpenSpec.upto upolyWaysSpec)) upolyWaysUptoCard

/-- THE SECOND FORM's CARD OF 'vinculumlaw09.UpolyBack'. -/
def upolyBackUptoCard : Claim7 := { stood := { row := upolyBackUptoRow, standIns := [], harness := (true, "d05bbbbc4af7b002a719d83e803355e738b8cda95fc3c3e50ba2531fbff7ed6d"), looks := false }, kinds := [], alts := [], laidByText := true, laidKinds := [.data], laidTests := true, laidLooks := .later }
def UpolyBackUptoCardSaid : Prop := Claim7.holds Tryz.pinned (.plain (OpenSpec.upto upolyBackSpec)) upolyBackUptoCard

/-- THE SECOND FORM's CARD OF 'vinculumlaw09.UpolyRing'. -/
def upolyRingUptoCard : Claim7 := { stood := { row := upolyRingUptoRow, standIns := [], harness := (true, "d05bbbbc4af7b002a719d83e803355e738b8cda95fc3c3e50ba2531fbff7ed6d"), looks := false }, kinds := [], alts := [], laidByText := true, laidKinds := [.data], laidTests := true, laidLooks := .later }
def UpolyRingUptoCardSaid : Prop := Claim7.holds Tryz.pinned (.plain (OpenSpec.upto upolyRingSpec)) upolyRingUptoCard

/-- THE SECOND FORM's CARD OF 'vinculumlaw09.UpolyBezout'. -/
def upolyBezoutUptoCard : Claim7 := { stood := { row := upolyBezoutUptoRow, standIns := [], harness := (true, "d05bbbbc4af7b002a719d83e803355e738b8cda95fc3c3e50ba2531fbff7ed6d"), looks := false }, kinds := [], alts := [], laidByText := true, laidKinds := [.data], laidTests := true, laidLooks := .later }
def UpolyBezoutUptoCardSaid : Prop := Claim7.holds Tryz.pinned (.plain (OpenSpec.upto upolyBezoutSpec)) upolyBezoutUptoCard

/-- THE SECOND FORM's CARD OF 'vinculumlaw09.UpolyNil'. -/
def upolyNilUptoCard : Claim7 := { stood := { row := upolyNilUptoRow, standIns := [], harness := (true, "d05bbbbc4af7b002a719d83e803355e738b8cda95fc3c3e50ba2531fbff7ed6d"), looks := false }, kinds := [], alts := [], laidByText := true, laidKinds := [.data], laidTests := true, laidLooks := .later }
def UpolyNilUptoCardSaid : Prop := Claim7.holds Tryz.pinned (.plain (OpenSpec.upto upolyNilSpec)) upolyNilUptoCard
end Rows
end Go.Proofs.YtmpfgaebmdbdeaaGreatDoor
