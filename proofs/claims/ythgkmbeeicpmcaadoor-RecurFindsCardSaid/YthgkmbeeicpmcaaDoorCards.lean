/-
  DERIVED. GIVEN WITH THE SEED: THE CARDS: each row of YthgkmbeeicpmcaaDoorRows.lean that lists a variable, with what it lists TIED to the program's text (the seventh form; the later family's looks); each row that meets fmt, with fmt's text TOLD by the authors' own Lean function (tested against real Go, not proved from fmt's source: count such statements apart). THE CARD IS WHAT COUNTS. Prove the row's statement (the work); the ties are given (YthgkmbeeicpmcaaDoorTie.lean); close each card by the builder's one call (the guide's Derived/Test/ToyasCard.lean, 'card_holds'). Laid BY PROGRAM, IN A SANDBOX (cutbox-door.mjs). By AI agents, Wed Nov 11 2026. No macro, syntax, notation, axiom, sorry.
-/
import Derived.Test.YthgkmbeeicpmcaaDoorRows
import GoSem.ClaimSeven
namespace Go.Proofs.YthgkmbeeicpmcaaDoor
namespace Rows

/-- THE TIED CARD OF 'vinculumlaw10.RecurFinds'. -/
def recurFindsCard : Claim7 := { stood := { row := recurFindsRow, standIns := [], harness := (true, "eefbe08a465f3f0d4e219937c8946e3ef7f5c2e0a9ec1348716eb408157a0f2c"), looks := false }, kinds := [], alts := [], laidByText := true, laidKinds := [.data], laidTests := true, laidLooks := .later }
def RecurFindsCardSaid : Prop := Claim7.holds Tryd.pinned (.plain (OpenSpec.ofChange recurFindsSpec)) recurFindsCard

/-- THE TIED CARD OF 'vinculumlaw10.RecurChars'. -/
def recurCharsCard : Claim7 := { stood := { row := recurCharsRow, standIns := [], harness := (true, "eefbe08a465f3f0d4e219937c8946e3ef7f5c2e0a9ec1348716eb408157a0f2c"), looks := false }, kinds := [], alts := [], laidByText := true, laidKinds := [.data], laidTests := true, laidLooks := .later }
def RecurCharsCardSaid : Prop := Claim7.holds Tryd.pinned (.plain (OpenSpec.ofChange recurCharsSpec)) recurCharsCard

/-- THE TIED CARD OF 'vinculumlaw10.RecurFar'. -/
def recurFarCard : Claim7 := { stood := { row := recurFarRow, standIns := [], harness := (true, "eefbe08a465f3f0d4e219937c8946e3ef7f5c2e0a9ec1348716eb408157a0f2c"), looks := false }, kinds := [], alts := [], laidByText := true, laidKinds := [.data], laidTests := true, laidLooks := .later }
def RecurFarCardSaid : Prop := Claim7.holds Tryd.pinned (.plain (OpenSpec.ofChange recurFarSpec)) recurFarCard

/-- THE TIED CARD OF 'vinculumlaw10.RecurHolds'. -/
def recurHoldsCard : Claim7 := { stood := { row := recurHoldsRow, standIns := [], harness := (true, "eefbe08a465f3f0d4e219937c8946e3ef7f5c2e0a9ec1348716eb408157a0f2c"), looks := false }, kinds := [], alts := [], laidByText := true, laidKinds := [.data], laidTests := true, laidLooks := .later }
def RecurHoldsCardSaid : Prop := Claim7.holds Tryd.pinned (.plain (OpenSpec.ofChange recurHoldsSpec)) recurHoldsCard

/-- THE TIED CARD OF 'vinculumlaw10.RecurBack'. -/
def recurBackCard : Claim7 := { stood := { row := recurBackRow, standIns := [], harness := (true, "eefbe08a465f3f0d4e219937c8946e3ef7f5c2e0a9ec1348716eb408157a0f2c"), looks := false }, kinds := [], alts := [], laidByText := true, laidKinds := [.data], laidTests := true, laidLooks := .later }
def RecurBackCardSaid : Prop := Claim7.holds Tryd.pinned (.plain (OpenSpec.ofChange recurBackSpec)) recurBackCard

/-- THE TIED CARD OF 'vinculumlaw10.RecurAny'. -/
def recurAnyCard : Claim7 := { stood := { row := recurAnyRow, standIns := [], harness := (true, "eefbe08a465f3f0d4e219937c8946e3ef7f5c2e0a9ec1348716eb408157a0f2c"), looks := false }, kinds := [], alts := [], laidByText := true, laidKinds := [.data], laidTests := true, laidLooks := .later }
def RecurAnyCardSaid : Prop := Claim7.holds Tryd.pinned (.plain (OpenSpec.ofChange recurAnySpec)) recurAnyCard

/-- THE SECOND FORM's CARD OF 'vinculumlaw10.RecurFinds'. -/
def recurFindsUptoCard : Claim7 := { stood := { row := recurFindsUptoRow, standIns := [], harness := (true, "eefbe08a465f3f0d4e219937c8946e3ef7f5c2e0a9ec1348716eb408157a0f2c"), looks := false }, kinds := [], alts := [], laidByText := true, laidKinds := [.data], laidTests := true, laidLooks := .later }
def RecurFindsUptoCardSaid : Prop := Claim7.holds Tryd.pinned (.plain (OpenSpec.upto recurFindsSpec)) recurFindsUptoCard

/-- THE SECOND FORM's CARD OF 'vinculumlaw10.RecurChars'. -/
def recurCharsUptoCard : Claim7 := { stood := { row := recurCharsUptoRow, standIns := [], harness := (true, "eefbe08a465f3f0d4e219937c8946e3ef7f5c2e0a9ec1348716eb408157a0f2c"), looks := false }, kinds := [], alts := [], laidByText := true, laidKinds := [.data], laidTests := true, laidLooks := .later }
def RecurCharsUptoCardSaid : Prop := Claim7.holds Tryd.pinned (.plain (OpenSpec.upto recurCharsSpec)) recurCharsUptoCard

/-- THE SECOND FORM's CARD OF 'vinculumlaw10.RecurFar'. -/
def recurFarUptoCard : Claim7 := { stood := { row := recurFarUptoRow, standIns := [], harness := (true, "eefbe08a465f3f0d4e219937c8946e3ef7f5c2e0a9ec1348716eb408157a0f2c"), looks := false }, kinds := [], alts := [], laidByText := true, laidKinds := [.data], laidTests := true, laidLooks := .later }
def RecurFarUptoCardSaid : Prop := Claim7.holds Tryd.pinned (.plain (OpenSpec.upto recurFarSpec)) recurFarUptoCard

/-- THE SECOND FORM's CARD OF 'vinculumlaw10.RecurHolds'. -/
def recurHoldsUptoCard : Claim7 := { stood := { row := recurHoldsUptoRow, standIns := [], harness := (true, "eefbe08a465f3f0d4e219937c8946e3ef7f5c2e0a9ec1348716eb408157a0f2c"), looks := false }, kinds := [], alts := [], laidByText := true, laidKinds := [.data], laidTests := true, laidLooks := .later }
def RecurHoldsUptoCardSaid : Prop := Claim7.holds Tryd.pinned (.plain (OpenSpec.upto recurHoldsSpec)) recurHoldsUptoCard

/-- THE SECOND FORM's CARD OF 'vinculumlaw10.RecurBack'. -/
def recurBackUptoCard : Claim7 := { stood := { row := recurBackUptoRow, standIns := [], harness := (true, "eefbe08a465f3f0d4e219937c8946e3ef7f5c2e0a9ec1348716eb408157a0f2c"), looks := false }, kinds := [], alts := [], laidByText := true, laidKinds := [.data], laidTests := true, laidLooks := .later }
def RecurBackUptoCardSaid : Prop := Claim7.holds Tryd.pinned (.plain (OpenSpec.upto recurBackSpec)) recurBackUptoCard

/-- THE SECOND FORM's CARD OF 'vinculumlaw10.RecurAny'. -/
def recurAnyUptoCard : Claim7 := { stood := { row := recurAnyUptoRow, standIns := [], harness := (true, "eefbe08a465f3f0d4e219937c8946e3ef7f5c2e0a9ec1348716eb408157a0f2c"), looks := false }, kinds := [], alts := [], laidByText := true, laidKinds := [.data], laidTests := true, laidLooks := .later }
def RecurAnyUptoCardSaid : Prop := Claim7.holds Tryd.pinned (.plain (OpenSpec.upto recurAnySpec)) recurAnyUptoCard
end Rows
end Go.Proofs.YthgkmbeeicpmcaaDoor
