/-
  DERIVED. GIVEN WITH THE SEED: THE CARDS: each row of YtmpfgaebmdbdeaaDoorRows.lean that lists a variable, with what it lists TIED to the program's text (the seventh form; the later family's looks); each row that meets fmt, with fmt's text TOLD by the authors' own Lean function (tested against real Go, not proved from fmt's source: count such statements apart). THE CARD IS WHAT COUNTS. Prove the row's statement (the work); the ties are given (YtmpfgaebmdbdeaaDoorTie.lean); close each card by the builder's one call (the guide's Derived/Test/ToyasCard.lean, 'card_holds'). Laid BY PROGRAM, IN A SANDBOX (cutbox-door.mjs). By AI agents, Wed Nov 11 2026. No macro, syntax, notation, axiom, sorry.
-/
import Derived.Test.YtmpfgaebmdbdeaaDoorRows
import GoSem.ClaimSeven
namespace Go.Proofs.YtmpfgaebmdbdeaaDoor
namespace Rows

/-- THE TIED CARD OF 'vinculumlaw09.UpolyDivides'. -/
def upolyDividesCard : Claim7 := { stood := { row := upolyDividesRow, standIns := [], harness := (true, "809d77db2a414e34424389aaa97a0a0637310c226c7acff5c4a6077e78160e44"), looks := false }, kinds := [], alts := [], laidByText := true, laidKinds := [.data], laidTests := true, laidLooks := .later }
def UpolyDividesCardSaid : Prop := Claim7.holds Tryd.pinned (.plain (OpenSpec.ofChange upolyDividesSpec)) upolyDividesCard

/-- THE TIED CARD OF 'vinculumlaw09.UpolyAdds'. -/
def upolyAddsCard : Claim7 := { stood := { row := upolyAddsRow, standIns := [], harness := (true, "809d77db2a414e34424389aaa97a0a0637310c226c7acff5c4a6077e78160e44"), looks := false }, kinds := [], alts := [], laidByText := true, laidKinds := [.data], laidTests := true, laidLooks := .later }
def UpolyAddsCardSaid : Prop := Claim7.holds Tryd.pinned (.plain (OpenSpec.ofChange upolyAddsSpec)) upolyAddsCard

/-- THE TIED CARD OF 'vinculumlaw09.UpolyGcds'. -/
def upolyGcdsCard : Claim7 := { stood := { row := upolyGcdsRow, standIns := [], harness := (true, "809d77db2a414e34424389aaa97a0a0637310c226c7acff5c4a6077e78160e44"), looks := false }, kinds := [], alts := [], laidByText := true, laidKinds := [.data], laidTests := true, laidLooks := .later }
def UpolyGcdsCardSaid : Prop := Claim7.holds Tryd.pinned (.plain (OpenSpec.ofChange upolyGcdsSpec)) upolyGcdsCard

/-- THE TIED CARD OF 'vinculumlaw09.UpolyPowers'. -/
def upolyPowersCard : Claim7 := { stood := { row := upolyPowersRow, standIns := [], harness := (true, "809d77db2a414e34424389aaa97a0a0637310c226c7acff5c4a6077e78160e44"), looks := false }, kinds := [], alts := [], laidByText := true, laidKinds := [.data], laidTests := true, laidLooks := .later }
def UpolyPowersCardSaid : Prop := Claim7.holds Tryd.pinned (.plain (OpenSpec.ofChange upolyPowersSpec)) upolyPowersCard

/-- THE SECOND FORM's CARD OF 'vinculumlaw09.UpolyDivides'. -/
def upolyDividesUptoCard : Claim7 := { stood := { row := upolyDividesUptoRow, standIns := [], harness := (true, "809d77db2a414e34424389aaa97a0a0637310c226c7acff5c4a6077e78160e44"), looks := false }, kinds := [], alts := [], laidByText := true, laidKinds := [.data], laidTests := true, laidLooks := .later }
def UpolyDividesUptoCardSaid : Prop := Claim7.holds Tryd.pinned (.plain (OpenSpec.upto upolyDividesSpec)) upolyDividesUptoCard

/-- THE SECOND FORM's CARD OF 'vinculumlaw09.UpolyAdds'. -/
def upolyAddsUptoCard : Claim7 := { stood := { row := upolyAddsUptoRow, standIns := [], harness := (true, "809d77db2a414e34424389aaa97a0a0637310c226c7acff5c4a6077e78160e44"), looks := false }, kinds := [], alts := [], laidByText := true, laidKinds := [.data], laidTests := true, laidLooks := .later }
def UpolyAddsUptoCardSaid : Prop := Claim7.holds Tryd.pinned (.plain (OpenSpec.upto upolyAddsSpec)) upolyAddsUptoCard

/-- THE SECOND FORM's CARD OF 'vinculumlaw09.UpolyGcds'. -/
def upolyGcdsUptoCard : Claim7 := { stood := { row := upolyGcdsUptoRow, standIns := [], harness := (true, "809d77db2a414e34424389aaa97a0a0637310c226c7acff5c4a6077e78160e44"), looks := false }, kinds := [], alts := [], laidByText := true, laidKinds := [.data], laidTests := true, laidLooks := .later }
def UpolyGcdsUptoCardSaid : Prop := Claim7.holds Tryd.pinned (.plain (OpenSpec.upto upolyGcdsSpec)) upolyGcdsUptoCard

/-- THE SECOND FORM's CARD OF 'vinculumlaw09.UpolyPowers'. -/
def upolyPowersUptoCard : Claim7 := { stood := { row := upolyPowersUptoRow, standIns := [], harness := (true, "809d77db2a414e34424389aaa97a0a0637310c226c7acff5c4a6077e78160e44"), looks := false }, kinds := [], alts := [], laidByText := true, laidKinds := [.data], laidTests := true, laidLooks := .later }
def UpolyPowersUptoCardSaid : Prop := Claim7.holds Tryd.pinned (.plain (OpenSpec.upto upolyPowersSpec)) upolyPowersUptoCard
end Rows
end Go.Proofs.YtmpfgaebmdbdeaaDoor
