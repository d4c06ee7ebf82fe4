/-
  NARROWER THAN 'FOR EVERY INPUT', by the rows' own cells (each row's printed sentence says how): RecurFinds: laid · RecurChars: laid · RecurFar: laid · RecurHolds: laid · RecurBack: laid · RecurAny: laid.
  DERIVED. THE GIVEN ROWS OF THIS SEAT. 6 by the template 'for every input the law returns true; each argument reads behind the call as it read before'; 0 by the template 'total and deterministic' (their statements: YthgkmbeeicpmcaaDoorTotals.lean).
  GIVEN WITH THE SEED: the statements are not yours to turn. If you find one false, say at which input.
  Laid BY PROGRAM, IN A SANDBOX (cutbox-rows.mjs): the forced cells as the released guide's own fill.sh prints them over the translation 771c655d3ecf757a… (all of the seat's roots in one cut). By AI agents, Wed Nov 11 2026. No macro, syntax, notation, axiom, sorry.
-/
import Derived.Test.YthgkmbeeicpmcaaDoorChecked
import GoSem.Claim
import GoSem.ClaimJoined
import GoSem.ClaimMapViews
import Derived.JoinedTies
import Derived.KernelRfl
namespace Go.Proofs.YthgkmbeeicpmcaaDoor
/- THE CELL 'sum', in the pinned program and in every row, IS THE sha256 OF THE DUMP (.gsa) THAT YthgkmbeeicpmcaaDoorProg.lean LOADS. Nothing in Lean hashes anything: it is a label: what it is worth is what the hold of that sum in a sandbox is worth. -/
noncomputable def Tryd.pinned : Pinned := { name := "ythgkmbeeicpmcaadoor", sum := "771c655d3ecf757ae2553a2ba0eca90439c1be504fd6df49b7bcef3e9754be2c", checked := Tryd.checked }
namespace Rows
def none {H : Type} : Left H := { results := [], args := [] }

/- WHAT THE LISTED PACKAGE-LEVEL VARIABLES READ AS WHEN THE CALL BEGINS. Each datum BY PROGRAM (the guide's laid-datum.mjs) off the statement by which the dump's own 'gosem.cut.vars' lays the variable. In a bare row this is a premise. The card (YthgkmbeeicpmcaaDoorCards.lean) ties it to the program's text. -/
def laid_math_bits_deBruijn64tab {H : Type} : DataW H := .agg [.lit (.int .u8 0), .lit (.int .u8 1), .lit (.int .u8 56), .lit (.int .u8 2), .lit (.int .u8 57), .lit (.int .u8 49), .lit (.int .u8 28), .lit (.int .u8 3), .lit (.int .u8 61), .lit (.int .u8 58), .lit (.int .u8 42), .lit (.int .u8 50), .lit (.int .u8 38), .lit (.int .u8 29), .lit (.int .u8 17), .lit (.int .u8 4), .lit (.int .u8 62), .lit (.int .u8 47), .lit (.int .u8 59), .lit (.int .u8 36), .lit (.int .u8 45), .lit (.int .u8 43), .lit (.int .u8 51), .lit (.int .u8 22), .lit (.int .u8 53), .lit (.int .u8 39), .lit (.int .u8 33), .lit (.int .u8 30), .lit (.int .u8 24), .lit (.int .u8 18), .lit (.int .u8 12), .lit (.int .u8 5), .lit (.int .u8 63), .lit (.int .u8 55), .lit (.int .u8 48), .lit (.int .u8 27), .lit (.int .u8 60), .lit (.int .u8 41), .lit (.int .u8 37), .lit (.int .u8 16), .lit (.int .u8 46), .lit (.int .u8 35), .lit (.int .u8 44), .lit (.int .u8 21), .lit (.int .u8 52), .lit (.int .u8 32), .lit (.int .u8 23), .lit (.int .u8 11), .lit (.int .u8 54), .lit (.int .u8 26), .lit (.int .u8 40), .lit (.int .u8 15), .lit (.int .u8 34), .lit (.int .u8 20), .lit (.int .u8 31), .lit (.int .u8 10), .lit (.int .u8 25), .lit (.int .u8 14), .lit (.int .u8 19), .lit (.int .u8 9), .lit (.int .u8 13), .lit (.int .u8 8), .lit (.int .u8 7), .lit (.int .u8 6)]

/-- 'vinculumlaw10.RecurFinds': WHATEVER THE INPUT: true; the input reads as it did. -/
def recurFindsSpec : ChangeSpec := { name := "recurFinds", fn := fun _ => fun
  | [d1, d2] => { results := [.lit (.bool true)], args := [d1, d2] }
  | _ => none }
def recurFindsRow : OpenClaim := { program := "ythgkmbeeicpmcaadoor", sum := "771c655d3ecf757ae2553a2ba0eca90439c1be504fd6df49b7bcef3e9754be2c", func := "vinculum/vinculumlaw10.RecurFinds", spec := "recurFinds", recurses := true, named := ["math/bits.deBruijn64tab", "math/bits.divideError", "math/bits.overflowError"], apart := false, laid := [("math/bits.deBruijn64tab", laid_math_bits_deBruijn64tab)] }
def RecurFindsSaid : Prop := recurFindsRow.holds Tryd.pinned (OpenSpec.ofChange recurFindsSpec)

/-- ITS FALSE NEIGHBOUR: 'it returns false'. Refute it at one input. -/
def recurFindsWrong : ChangeSpec := { name := "recurFinds", fn := fun _ => fun
  | [d1, d2] => { results := [.lit (.bool false)], args := [d1, d2] }
  | _ => none }
def RecurFindsWrongFalsely : Prop := recurFindsRow.holds Tryd.pinned (OpenSpec.ofChange recurFindsWrong)

/-- 'vinculumlaw10.RecurChars': WHATEVER THE INPUT: true; the input reads as it did. -/
def recurCharsSpec : ChangeSpec := { name := "recurChars", fn := fun _ => fun
  | [d1, d2] => { results := [.lit (.bool true)], args := [d1, d2] }
  | _ => none }
def recurCharsRow : OpenClaim := { program := "ythgkmbeeicpmcaadoor", sum := "771c655d3ecf757ae2553a2ba0eca90439c1be504fd6df49b7bcef3e9754be2c", func := "vinculum/vinculumlaw10.RecurChars", spec := "recurChars", recurses := true, named := ["math/bits.deBruijn64tab", "math/bits.divideError", "math/bits.overflowError"], apart := false, laid := [("math/bits.deBruijn64tab", laid_math_bits_deBruijn64tab)] }
def RecurCharsSaid : Prop := recurCharsRow.holds Tryd.pinned (OpenSpec.ofChange recurCharsSpec)

/-- ITS FALSE NEIGHBOUR: 'it returns false'. Refute it at one input. -/
def recurCharsWrong : ChangeSpec := { name := "recurChars", fn := fun _ => fun
  | [d1, d2] => { results := [.lit (.bool false)], args := [d1, d2] }
  | _ => none }
def RecurCharsWrongFalsely : Prop := recurCharsRow.holds Tryd.pinned (OpenSpec.ofChange recurCharsWrong)

/-- 'vinculumlaw10.RecurFar': WHATEVER THE INPUT: true; the input reads as it did. -/
def recurFarSpec : ChangeSpec := { name := "recurFar", fn := fun _ => fun
  | [d1, d2, d3] => { results := [.lit (.bool true)], args := [d1, d2, d3] }
  | _ => none }
def recurFarRow : OpenClaim := { program := "ythgkmbeeicpmcaadoor", sum := "771c655d3ecf757ae2553a2ba0eca90439c1be504fd6df49b7bcef3e9754be2c", func := "vinculum/vinculumlaw10.RecurFar", spec := "recurFar", recurses := true, named := ["math/bits.deBruijn64tab", "math/bits.divideError", "math/bits.overflowError"], apart := false, laid := [("math/bits.deBruijn64tab", laid_math_bits_deBruijn64tab)] }
def RecurFarSaid : Prop := recurFarRow.holds Tryd.pinned (OpenSpec.ofChange recurFarSpec)

/-- ITS FALSE NEIGHBOUR: 'it returns false'. Refute it at one input. -/
def recurFarWrong : ChangeSpec := { name := "recurFar", fn := fun _ => fun
  | [d1, d2, d3] => { results := [.lit (.bool false)], args := [d1, d2, d3] }
  | _ => none }
def RecurFarWrongFalsely : Prop := recurFarRow.holds Tryd.pinned (OpenSpec.ofChange recurFarWrong)

/-- 'vinculumlaw10.RecurHolds': WHATEVER THE INPUT: true; the input reads as it did. -/
def recurHoldsSpec : ChangeSpec := { name := "recurHolds", fn := fun _ => fun
  | [d1, d2, d3] => { results := [.lit (.bool true)], args := [d1, d2, d3] }
  | _ => none }
def recurHoldsRow : OpenClaim := { program := "ythgkmbeeicpmcaadoor", sum := "771c655d3ecf757ae2553a2ba0eca90439c1be504fd6df49b7bcef3e9754be2c", func := "vinculum/vinculumlaw10.RecurHolds", spec := "recurHolds", recurses := true, named := ["math/bits.deBruijn64tab", "math/bits.divideError", "math/bits.overflowError"], apart := false, laid := [("math/bits.deBruijn64tab", laid_math_bits_deBruijn64tab)] }
def RecurHoldsSaid : Prop := recurHoldsRow.holds Tryd.pinned (OpenSpec.ofChange recurHoldsSpec)

/-- ITS FALSE NEIGHBOUR: 'it returns false'. Refute it at one input. -/
def recurHoldsWrong : ChangeSpec := { name := "recurHolds", fn := fun _ => fun
  | [d1, d2, d3] => { results := [.lit (.bool false)], args := [d1, d2, d3] }
  | _ => none }
def RecurHoldsWrongFalsely : Prop := recurHoldsRow.holds Tryd.pinned (OpenSpec.ofChange recurHoldsWrong)

/-- 'vinculumlaw10.RecurBack': WHATEVER THE INPUT: true; the input reads as it did. -/
def recurBackSpec : ChangeSpec := { name := "recurBack", fn := fun _ => fun
  | [d1, d2, d3] => { results := [.lit (.bool true)], args := [d1, d2, d3] }
  | _ => none }
def recurBackRow : OpenClaim := { program := "ythgkmbeeicpmcaadoor", sum := "771c655d3ecf757ae2553a2ba0eca90439c1be504fd6df49b7bcef3e9754be2c", func := "vinculum/vinculumlaw10.RecurBack", spec := "recurBack", recurses := true, named := ["math/bits.deBruijn64tab", "math/bits.divideError", "math/bits.overflowError"], apart := false, laid := [("math/bits.deBruijn64tab", laid_math_bits_deBruijn64tab)] }
def RecurBackSaid : Prop := recurBackRow.holds Tryd.pinned (OpenSpec.ofChange recurBackSpec)

/-- ITS FALSE NEIGHBOUR: 'it returns false'. Refute it at one input. -/
def recurBackWrong : ChangeSpec := { name := "recurBack", fn := fun _ => fun
  | [d1, d2, d3] => { results := [.lit (.bool false)], args := [d1, d2, d3] }
  | _ => none }
def RecurBackWrongFalsely : Prop := recurBackRow.holds Tryd.pinned (OpenSpec.ofChange recurBackWrong)

/-- 'vinculumlaw10.RecurAny': WHATEVER THE INPUT: true; the input reads as it did. -/
def recurAnySpec : ChangeSpec := { name := "recurAny", fn := fun _ => fun
  | [d1, d2] => { results := [.lit (.bool true)], args := [d1, d2] }
  | _ => none }
def recurAnyRow : OpenClaim := { program := "ythgkmbeeicpmcaadoor", sum := "771c655d3ecf757ae2553a2ba0eca90439c1be504fd6df49b7bcef3e9754be2c", func := "vinculum/vinculumlaw10.RecurAny", spec := "recurAny", recurses := true, named := ["math/bits.deBruijn64tab", "math/bits.divideError", "math/bits.overflowError"], apart := false, laid := [("math/bits.deBruijn64tab", laid_math_bits_deBruijn64tab)] }
def RecurAnySaid : Prop := recurAnyRow.holds Tryd.pinned (OpenSpec.ofChange recurAnySpec)

/-- ITS FALSE NEIGHBOUR: 'it returns false'. Refute it at one input. -/
def recurAnyWrong : ChangeSpec := { name := "recurAny", fn := fun _ => fun
  | [d1, d2] => { results := [.lit (.bool false)], args := [d1, d2] }
  | _ => none }
def RecurAnyWrongFalsely : Prop := recurAnyRow.holds Tryd.pinned (OpenSpec.ofChange recurAnyWrong)

/- THE SECOND FORM. 'bulk': how many values and letters a reading holds, each counted each time it is reached (what is shared counts as often as it is met; a slice's spare places count too). A statement '..UptoSaid' is the law's where the arguments, and the package variables that the reading takes, are together of bulk at most 1048576: NARROWER than '..Said'. Prove '..Said' where nothing that the law and all that it calls make is longer than what came in: it says more and counts as full. Else prove '..UptoSaid'. A law counts once. -/
mutual
def uptoBulk {H : Type} : DataW H → Nat
  | .lit (.string bytes) => bytes.length + 1
  | .lit _ => 1
  | .nil => 1
  | .ptr d => uptoBulk d + 1
  | .slice elems spare => uptoBulkAll elems + uptoBulkAll spare + 1
  | .agg parts => uptoBulkAll parts + 1
  | .iface _ d => uptoBulk d + 1
  | .map entries => uptoBulkEntries entries + 1
  | .held _ => 1
def uptoBulkAll {H : Type} : List (DataW H) → Nat
  | [] => 0
  | d :: r => uptoBulk d + uptoBulkAll r
def uptoBulkEntries {H : Type} : List (Lit × DataW H) → Nat
  | [] => 0
  | x :: r => uptoBulkEntry x + uptoBulkEntries r
def uptoBulkEntry {H : Type} : Lit × DataW H → Nat
  | (.string bytes, d) => bytes.length + uptoBulk d + 1
  | (_, d) => uptoBulk d + 1
 end
def uptoSmall : (H : Type) → List (DataW H) → Bool := fun _ ds => decide (uptoBulkAll ds ≤ 1048576)
def OpenSpec.upto (s : _root_.Go.ChangeSpec) : _root_.Go.OpenSpec := { _root_.Go.OpenSpec.ofChange s with cond := some uptoSmall }

/-- 'vinculumlaw10.RecurFinds', WHERE WHAT IT READS IS OF BULK AT MOST 1048576: true; the input reads as it did. -/
def recurFindsUptoRow : OpenClaim := { program := "ythgkmbeeicpmcaadoor", sum := "771c655d3ecf757ae2553a2ba0eca90439c1be504fd6df49b7bcef3e9754be2c", func := "vinculum/vinculumlaw10.RecurFinds", spec := "recurFinds", recurses := true, named := ["math/bits.deBruijn64tab", "math/bits.divideError", "math/bits.overflowError"], apart := false, laid := [("math/bits.deBruijn64tab", laid_math_bits_deBruijn64tab)], narrowed := true }
def RecurFindsUptoSaid : Prop := recurFindsUptoRow.holds Tryd.pinned (OpenSpec.upto recurFindsSpec)

/-- 'vinculumlaw10.RecurChars', WHERE WHAT IT READS IS OF BULK AT MOST 1048576: true; the input reads as it did. -/
def recurCharsUptoRow : OpenClaim := { program := "ythgkmbeeicpmcaadoor", sum := "771c655d3ecf757ae2553a2ba0eca90439c1be504fd6df49b7bcef3e9754be2c", func := "vinculum/vinculumlaw10.RecurChars", spec := "recurChars", recurses := true, named := ["math/bits.deBruijn64tab", "math/bits.divideError", "math/bits.overflowError"], apart := false, laid := [("math/bits.deBruijn64tab", laid_math_bits_deBruijn64tab)], narrowed := true }
def RecurCharsUptoSaid : Prop := recurCharsUptoRow.holds Tryd.pinned (OpenSpec.upto recurCharsSpec)

/-- 'vinculumlaw10.RecurFar', WHERE WHAT IT READS IS OF BULK AT MOST 1048576: true; the input reads as it did. -/
def recurFarUptoRow : OpenClaim := { program := "ythgkmbeeicpmcaadoor", sum := "771c655d3ecf757ae2553a2ba0eca90439c1be504fd6df49b7bcef3e9754be2c", func := "vinculum/vinculumlaw10.RecurFar", spec := "recurFar", recurses := true, named := ["math/bits.deBruijn64tab", "math/bits.divideError", "math/bits.overflowError"], apart := false, laid := [("math/bits.deBruijn64tab", laid_math_bits_deBruijn64tab)], narrowed := true }
def RecurFarUptoSaid : Prop := recurFarUptoRow.holds Tryd.pinned (OpenSpec.upto recurFarSpec)

/-- 'vinculumlaw10.RecurHolds', WHERE WHAT IT READS IS OF BULK AT MOST 1048576: true; the input reads as it did. -/
def recurHoldsUptoRow : OpenClaim := { program := "ythgkmbeeicpmcaadoor", sum := "771c655d3ecf757ae2553a2ba0eca90439c1be504fd6df49b7bcef3e9754be2c", func := "vinculum/vinculumlaw10.RecurHolds", spec := "recurHolds", recurses := true, named := ["math/bits.deBruijn64tab", "math/bits.divideError", "math/bits.overflowError"], apart := false, laid := [("math/bits.deBruijn64tab", laid_math_bits_deBruijn64tab)], narrowed := true }
def RecurHoldsUptoSaid : Prop := recurHoldsUptoRow.holds Tryd.pinned (OpenSpec.upto recurHoldsSpec)

/-- 'vinculumlaw10.RecurBack', WHERE WHAT IT READS IS OF BULK AT MOST 1048576: true; the input reads as it did. -/
def recurBackUptoRow : OpenClaim := { program := "ythgkmbeeicpmcaadoor", sum := "771c655d3ecf757ae2553a2ba0eca90439c1be504fd6df49b7bcef3e9754be2c", func := "vinculum/vinculumlaw10.RecurBack", spec := "recurBack", recurses := true, named := ["math/bits.deBruijn64tab", "math/bits.divideError", "math/bits.overflowError"], apart := false, laid := [("math/bits.deBruijn64tab", laid_math_bits_deBruijn64tab)], narrowed := true }
def RecurBackUptoSaid : Prop := recurBackUptoRow.holds Tryd.pinned (OpenSpec.upto recurBackSpec)

/-- 'vinculumlaw10.RecurAny', WHERE WHAT IT READS IS OF BULK AT MOST 1048576: true; the input reads as it did. -/
def recurAnyUptoRow : OpenClaim := { program := "ythgkmbeeicpmcaadoor", sum := "771c655d3ecf757ae2553a2ba0eca90439c1be504fd6df49b7bcef3e9754be2c", func := "vinculum/vinculumlaw10.RecurAny", spec := "recurAny", recurses := true, named := ["math/bits.deBruijn64tab", "math/bits.divideError", "math/bits.overflowError"], apart := false, laid := [("math/bits.deBruijn64tab", laid_math_bits_deBruijn64tab)], narrowed := true }
def RecurAnyUptoSaid : Prop := recurAnyUptoRow.holds Tryd.pinned (OpenSpec.upto recurAnySpec)

end Rows
end Go.Proofs.YthgkmbeeicpmcaaDoor
