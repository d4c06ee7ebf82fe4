/-
  NARROWER THAN 'FOR EVERY INPUT', by the rows' own cells (each row's printed sentence says how): NewtonValues: laid · NewtonFits: laid · NewtonSums: laid · NewtonBack: laid · NewtonPowers: laid · NewtonRows: laid · NewtonSteady: laid · NewtonNil: laid.
  DERIVED. THE GIVEN ROWS OF THIS SEAT. 8 by the template 'for every input the law returns true; each argument reads behind the call as it read before'; 0 by the template 'total and deterministic' (their statements: YtdafncbodihjhaaGreatDoorTotals.lean).
  GIVEN WITH THE SEED: the statements are not yours to turn. If you find one false, say at which input.
  Laid BY PROGRAM, IN A SANDBOX (cutbox-rows.mjs): the forced cells as the released guide's own fill.sh prints them over the translation 5333a6dcf6207602… (all of the seat's roots in one cut). By AI agents, Wed Nov 11 2026. No macro, syntax, notation, axiom, sorry.
-/
import Derived.Test.YtdafncbodihjhaaGreatDoorChecked
import GoSem.Claim
import GoSem.ClaimJoined
import GoSem.ClaimMapViews
import Derived.JoinedTies
import Derived.KernelRfl
namespace Go.Proofs.YtdafncbodihjhaaGreatDoor
/- THE CELL 'sum', in the pinned program and in every row, IS THE sha256 OF THE DUMP (.gsa) THAT YtdafncbodihjhaaGreatDoorProg.lean LOADS. Nothing in Lean hashes anything: it is a label: what it is worth is what the hold of that sum in a sandbox is worth. -/
noncomputable def Tryz.pinned : Pinned := { name := "ytdafncbodihjhaagreatdoor", sum := "5333a6dcf620760268b015d271d81e569b12654457fc9a4da76d2fcd197bd5a6", checked := Tryz.checked }
namespace Rows
def none {H : Type} : Left H := { results := [], args := [] }

/- WHAT THE LISTED PACKAGE-LEVEL VARIABLES READ AS WHEN THE CALL BEGINS. Each datum BY PROGRAM (the guide's laid-datum.mjs) off the statement by which the dump's own 'gosem.cut.vars' lays the variable. In a bare row this is a premise. The card (YtdafncbodihjhaaGreatDoorCards.lean) ties it to the program's text. -/
def laid_math_bits_deBruijn64tab {H : Type} : DataW H := .agg [.lit (.int .u8 0), .lit (.int .u8 1), .lit (.int .u8 56), .lit (.int .u8 2), .lit (.int .u8 57), .lit (.int .u8 49), .lit (.int .u8 28), .lit (.int .u8 3), .lit (.int .u8 61), .lit (.int .u8 58), .lit (.int .u8 42), .lit (.int .u8 50), .lit (.int .u8 38), .lit (.int .u8 29), .lit (.int .u8 17), .lit (.int .u8 4), .lit (.int .u8 62), .lit (.int .u8 47), .lit (.int .u8 59), .lit (.int .u8 36), .lit (.int .u8 45), .lit (.int .u8 43), .lit (.int .u8 51), .lit (.int .u8 22), .lit (.int .u8 53), .lit (.int .u8 39), .lit (.int .u8 33), .lit (.int .u8 30), .lit (.int .u8 24), .lit (.int .u8 18), .lit (.int .u8 12), .lit (.int .u8 5), .lit (.int .u8 63), .lit (.int .u8 55), .lit (.int .u8 48), .lit (.int .u8 27), .lit (.int .u8 60), .lit (.int .u8 41), .lit (.int .u8 37), .lit (.int .u8 16), .lit (.int .u8 46), .lit (.int .u8 35), .lit (.int .u8 44), .lit (.int .u8 21), .lit (.int .u8 52), .lit (.int .u8 32), .lit (.int .u8 23), .lit (.int .u8 11), .lit (.int .u8 54), .lit (.int .u8 26), .lit (.int .u8 40), .lit (.int .u8 15), .lit (.int .u8 34), .lit (.int .u8 20), .lit (.int .u8 31), .lit (.int .u8 10), .lit (.int .u8 25), .lit (.int .u8 14), .lit (.int .u8 19), .lit (.int .u8 9), .lit (.int .u8 13), .lit (.int .u8 8), .lit (.int .u8 7), .lit (.int .u8 6)]

/-- 'vinculumlaw12.NewtonValues': WHATEVER THE INPUT: true; the input reads as it did. -/
def newtonValuesSpec : ChangeSpec := { name := "newtonValues", fn := fun _ => fun
  | [d1, d2, d3] => { results := [.lit (.bool true)], args := [d1, d2, d3] }
  | _ => none }
def newtonValuesRow : OpenClaim := { program := "ytdafncbodihjhaagreatdoor", sum := "5333a6dcf620760268b015d271d81e569b12654457fc9a4da76d2fcd197bd5a6", func := "vinculum/vinculumlaw12.NewtonValues", spec := "newtonValues", inPlace := ["math/bits.Add64", "math/bits.Sub64"], recurses := true, named := ["math/bits.deBruijn64tab", "math/bits.divideError", "math/bits.overflowError"], apart := false, laid := [("math/bits.deBruijn64tab", laid_math_bits_deBruijn64tab)] }
def NewtonValuesSaid : Prop := newtonValuesRow.holds Tryz.pinned (OpenSpec.ofChange newtonValuesSpec)

/-- ITS FALSE NEIGHBOUR: 'it returns false'. Refute it at one input. -/
def newtonValuesWrong : ChangeSpec := { name := "newtonValues", fn := fun _ => fun
  | [d1, d2, d3] => { results := [.lit (.bool false)], args := [d1, d2, d3] }
  | _ => none }
def NewtonValuesWrongFalsely : Prop := newtonValuesRow.holds Tryz.pinned (OpenSpec.ofChange newtonValuesWrong)

/-- 'vinculumlaw12.NewtonFits': WHATEVER THE INPUT: true; the input reads as it did. -/
def newtonFitsSpec : ChangeSpec := { name := "newtonFits", fn := fun _ => fun
  | [d1, d2, d3] => { results := [.lit (.bool true)], args := [d1, d2, d3] }
  | _ => none }
def newtonFitsRow : OpenClaim := { program := "ytdafncbodihjhaagreatdoor", sum := "5333a6dcf620760268b015d271d81e569b12654457fc9a4da76d2fcd197bd5a6", func := "vinculum/vinculumlaw12.NewtonFits", spec := "newtonFits", inPlace := ["math/bits.Add64", "math/bits.Sub64"], recurses := true, named := ["math/bits.deBruijn64tab", "math/bits.divideError", "math/bits.overflowError"], apart := false, laid := [("math/bits.deBruijn64tab", laid_math_bits_deBruijn64tab)] }
def NewtonFitsSaid : Prop := newtonFitsRow.holds Tryz.pinned (OpenSpec.ofChange newtonFitsSpec)

/-- ITS FALSE NEIGHBOUR: 'it returns false'. Refute it at one input. -/
def newtonFitsWrong : ChangeSpec := { name := "newtonFits", fn := fun _ => fun
  | [d1, d2, d3] => { results := [.lit (.bool false)], args := [d1, d2, d3] }
  | _ => none }
def NewtonFitsWrongFalsely : Prop := newtonFitsRow.holds Tryz.pinned (OpenSpec.ofChange newtonFitsWrong)

/-- 'vinculumlaw12.NewtonSums': WHATEVER THE INPUT: true; the input reads as it did. -/
def newtonSumsSpec : ChangeSpec := { name := "newtonSums", fn := fun _ => fun
  | [d1, d2, d3] => { results := [.lit (.bool true)], args := [d1, d2, d3] }
  | _ => none }
def newtonSumsRow : OpenClaim := { program := "ytdafncbodihjhaagreatdoor", sum := "5333a6dcf620760268b015d271d81e569b12654457fc9a4da76d2fcd197bd5a6", func := "vinculum/vinculumlaw12.NewtonSums", spec := "newtonSums", inPlace := ["math/bits.Add64", "math/bits.Sub64"], recurses := true, named := ["math/bits.deBruijn64tab", "math/bits.divideError", "math/bits.overflowError"], apart := false, laid := [("math/bits.deBruijn64tab", laid_math_bits_deBruijn64tab)] }
def NewtonSumsSaid : Prop := newtonSumsRow.holds Tryz.pinned (OpenSpec.ofChange newtonSumsSpec)

/-- ITS FALSE NEIGHBOUR: 'it returns false'. Refute it at one input. -/
def newtonSumsWrong : ChangeSpec := { name := "newtonSums", fn := fun _ => fun
  | [d1, d2, d3] => { results := [.lit (.bool false)], args := [d1, d2, d3] }
  | _ => none }
def NewtonSumsWrongFalsely : Prop := newtonSumsRow.holds Tryz.pinned (OpenSpec.ofChange newtonSumsWrong)

/-- 'vinculumlaw12.NewtonBack': WHATEVER THE INPUT: true; the input reads as it did. -/
def newtonBackSpec : ChangeSpec := { name := "newtonBack", fn := fun _ => fun
  | [d1, d2, d3] => { results := [.lit (.bool true)], args := [d1, d2, d3] }
  | _ => none }
def newtonBackRow : OpenClaim := { program := "ytdafncbodihjhaagreatdoor", sum := "5333a6dcf620760268b015d271d81e569b12654457fc9a4da76d2fcd197bd5a6", func := "vinculum/vinculumlaw12.NewtonBack", spec := "newtonBack", inPlace := ["math/bits.Add64", "math/bits.Sub64"], recurses := true, named := ["math/bits.deBruijn64tab", "math/bits.divideError", "math/bits.overflowError"], apart := false, laid := [("math/bits.deBruijn64tab", laid_math_bits_deBruijn64tab)] }
def NewtonBackSaid : Prop := newtonBackRow.holds Tryz.pinned (OpenSpec.ofChange newtonBackSpec)

/-- ITS FALSE NEIGHBOUR: 'it returns false'. Refute it at one input. -/
def newtonBackWrong : ChangeSpec := { name := "newtonBack", fn := fun _ => fun
  | [d1, d2, d3] => { results := [.lit (.bool false)], args := [d1, d2, d3] }
  | _ => none }
def NewtonBackWrongFalsely : Prop := newtonBackRow.holds Tryz.pinned (OpenSpec.ofChange newtonBackWrong)

/-- 'vinculumlaw12.NewtonPowers': WHATEVER THE INPUT: true; the input reads as it did. -/
def newtonPowersSpec : ChangeSpec := { name := "newtonPowers", fn := fun _ => fun
  | [d1, d2, d3] => { results := [.lit (.bool true)], args := [d1, d2, d3] }
  | _ => none }
def newtonPowersRow : OpenClaim := { program := "ytdafncbodihjhaagreatdoor", sum := "5333a6dcf620760268b015d271d81e569b12654457fc9a4da76d2fcd197bd5a6", func := "vinculum/vinculumlaw12.NewtonPowers", spec := "newtonPowers", inPlace := ["math/bits.Add64", "math/bits.Sub64"], recurses := true, named := ["math/bits.deBruijn64tab", "math/bits.divideError", "math/bits.overflowError"], apart := false, laid := [("math/bits.deBruijn64tab", laid_math_bits_deBruijn64tab)] }
def NewtonPowersSaid : Prop := newtonPowersRow.holds Tryz.pinned (OpenSpec.ofChange newtonPowersSpec)

/-- ITS FALSE NEIGHBOUR: 'it returns false'. Refute it at one input. -/
def newtonPowersWrong : ChangeSpec := { name := "newtonPowers", fn := fun _ => fun
  | [d1, d2, d3] => { results := [.lit (.bool false)], args := [d1, d2, d3] }
  | _ => none }
def NewtonPowersWrongFalsely : Prop := newtonPowersRow.holds Tryz.pinned (OpenSpec.ofChange newtonPowersWrong)

/-- 'vinculumlaw12.NewtonRows': WHATEVER THE INPUT: true; the input reads as it did. -/
def newtonRowsSpec : ChangeSpec := { name := "newtonRows", fn := fun _ => fun
  | [d1, d2, d3] => { results := [.lit (.bool true)], args := [d1, d2, d3] }
  | _ => none }
def newtonRowsRow : OpenClaim := { program := "ytdafncbodihjhaagreatdoor", sum := "5333a6dcf620760268b015d271d81e569b12654457fc9a4da76d2fcd197bd5a6", func := "vinculum/vinculumlaw12.NewtonRows", spec := "newtonRows", inPlace := ["math/bits.Add64", "math/bits.Sub64"], recurses := true, named := ["math/bits.deBruijn64tab", "math/bits.divideError", "math/bits.overflowError"], apart := false, laid := [("math/bits.deBruijn64tab", laid_math_bits_deBruijn64tab)] }
def NewtonRowsSaid : Prop := newtonRowsRow.holds Tryz.pinned (OpenSpec.ofChange newtonRowsSpec)

/-- ITS FALSE NEIGHBOUR: 'it returns false'. Refute it at one input. -/
def newtonRowsWrong : ChangeSpec := { name := "newtonRows", fn := fun _ => fun
  | [d1, d2, d3] => { results := [.lit (.bool false)], args := [d1, d2, d3] }
  | _ => none }
def NewtonRowsWrongFalsely : Prop := newtonRowsRow.holds Tryz.pinned (OpenSpec.ofChange newtonRowsWrong)

/-- 'vinculumlaw12.NewtonSteady': WHATEVER THE INPUT: true; the input reads as it did. -/
def newtonSteadySpec : ChangeSpec := { name := "newtonSteady", fn := fun _ => fun
  | [d1, d2, d3] => { results := [.lit (.bool true)], args := [d1, d2, d3] }
  | _ => none }
def newtonSteadyRow : OpenClaim := { program := "ytdafncbodihjhaagreatdoor", sum := "5333a6dcf620760268b015d271d81e569b12654457fc9a4da76d2fcd197bd5a6", func := "vinculum/vinculumlaw12.NewtonSteady", spec := "newtonSteady", inPlace := ["math/bits.Add64", "math/bits.Sub64"], recurses := true, named := ["math/bits.deBruijn64tab", "math/bits.divideError", "math/bits.overflowError"], apart := false, laid := [("math/bits.deBruijn64tab", laid_math_bits_deBruijn64tab)] }
def NewtonSteadySaid : Prop := newtonSteadyRow.holds Tryz.pinned (OpenSpec.ofChange newtonSteadySpec)

/-- ITS FALSE NEIGHBOUR: 'it returns false'. Refute it at one input. -/
def newtonSteadyWrong : ChangeSpec := { name := "newtonSteady", fn := fun _ => fun
  | [d1, d2, d3] => { results := [.lit (.bool false)], args := [d1, d2, d3] }
  | _ => none }
def NewtonSteadyWrongFalsely : Prop := newtonSteadyRow.holds Tryz.pinned (OpenSpec.ofChange newtonSteadyWrong)

/-- 'vinculumlaw12.NewtonNil': WHATEVER THE INPUT: true; the input reads as it did. -/
def newtonNilSpec : ChangeSpec := { name := "newtonNil", fn := fun _ => fun
  | [d1, d2] => { results := [.lit (.bool true)], args := [d1, d2] }
  | _ => none }
def newtonNilRow : OpenClaim := { program := "ytdafncbodihjhaagreatdoor", sum := "5333a6dcf620760268b015d271d81e569b12654457fc9a4da76d2fcd197bd5a6", func := "vinculum/vinculumlaw12.NewtonNil", spec := "newtonNil", inPlace := ["math/bits.Add64", "math/bits.Sub64"], recurses := true, named := ["math/bits.divideError", "math/bits.overflowError", "math/bits.deBruijn64tab"], apart := false, laid := [("math/bits.deBruijn64tab", laid_math_bits_deBruijn64tab)] }
def NewtonNilSaid : Prop := newtonNilRow.holds Tryz.pinned (OpenSpec.ofChange newtonNilSpec)

/-- ITS FALSE NEIGHBOUR: 'it returns false'. Refute it at one input. -/
def newtonNilWrong : ChangeSpec := { name := "newtonNil", fn := fun _ => fun
  | [d1, d2] => { results := [.lit (.bool false)], args := [d1, d2] }
  | _ => none }
def NewtonNilWrongFalsely : Prop := newtonNilRow.holds Tryz.pinned (OpenSpec.ofChange newtonNilWrong)

/- THE SECOND FORM. 'bulk': how many values and letters a reading holds, each counted each time it is reached (what is shared counts as often as it is met; a slice's spare places count too). A statement '..UptoSaid' is the law's where the arguments, and the package variables that the reading takes, are together of bulk at most 1048576: NARROWER than '..Said'. Prove '..Said' where nothing that the law and all that it calls make is longer than what came in: it says more and counts as full. Else prove '..UptoSaid'. A law counts once. -/
mutual
def uptoBulk {H : Type} : DataW H → Nat
  | .lit (.string bytes) => bytes.length + 1
  | .lit _ => 1
  | .nil => 1
  | .ptr d => uptoBulk d + 1
  | .slice elems spare => uptoBulkAll elems + uptoBulkAll spare + 1
  | .agg parts => uptoBulkAll parts + 1
  | .iface _ d => uptoBulk d + 1
  | .map entries => uptoBulkEntries entries + 1
  | .held _ => 1
def uptoBulkAll {H : Type} : List (DataW H) → Nat
  | [] => 0
  | d :: r => uptoBulk d + uptoBulkAll r
def uptoBulkEntries {H : Type} : List (Lit × DataW H) → Nat
  | [] => 0
  | x :: r => uptoBulkEntry x + uptoBulkEntries r
def uptoBulkEntry {H : Type} : Lit × DataW H → Nat
  | (.string bytes, d) => bytes.length + uptoBulk d + 1
  | (_, d) => uptoBulk d + 1
 end
def uptoSmall : (H : Type) → List (DataW H) → Bool := fun _ ds => decide (uptoBulkAll ds ≤ 1048576)
def OpenSpec.upto (s : _root_.Go.ChangeSpec) : _root_.Go.OpenSpec := { _root_.Go.OpenSpec.ofChange s with cond := some uptoSmall }

/-- 'vinculumlaw12.NewtonValues', WHERE WHAT IT READS IS OF BULK AT MOST 1048576: true; the input reads as it did. -/
def newtonValuesUptoRow : OpenClaim := { program := "ytdafncbodihjhaagreatdoor", sum := "5333a6dcf620760268b015d271d81e569b12654457fc9a4da76d2fcd197bd5a6", func := "vinculum/vinculumlaw12.NewtonValues", spec := "newtonValues", inPlace := ["math/bits.Add64", "math/bits.Sub64"], recurses := true, named := ["math/bits.deBruijn64tab", "math/bits.divideError", "math/bits.overflowError"], apart := false, laid := [("math/bits.deBruijn64tab", laid_math_bits_deBruijn64tab)], narrowed := true }
def NewtonValuesUptoSaid : Prop := newtonValuesUptoRow.holds Tryz.pinned (OpenSpec.upto newtonValuesSpec)

/-- 'vinculumlaw12.NewtonFits', WHERE WHAT IT READS IS OF BULK AT MOST 1048576: true; the input reads as it did. -/
def newtonFitsUptoRow : OpenClaim := { program := "ytdafncbodihjhaagreatdoor", sum := "5333a6dcf620760268b015d271d81e569b12654457fc9a4da76d2fcd197bd5a6", func := "vinculum/vinculumlaw12.NewtonFits", spec := "newtonFits", inPlace := ["math/bits.Add64", "math/bits.Sub64"], recurses := true, named := ["math/bits.deBruijn64tab", "math/bits.divideError", "math/bits.overflowError"], apart := false, laid := [("math/bits.deBruijn64tab", laid_math_bits_deBruijn64tab)], narrowed := true }
def NewtonFitsUptoSaid : Prop := newtonFitsUptoRow.holds Tryz.pinned (OpenSpec.upto newtonFitsSpec)

/-- 'vinculumlaw12.NewtonSums', WHERE WHAT IT READS IS OF BULK AT MOST 1048576: true; the input reads as it did. -/
def newtonSumsUptoRow : OpenClaim := { program := "ytdafncbodihjhaagreatdoor", sum := "5333a6dcf620760268b015d271d81e569b12654457fc9a4da76d2fcd197bd5a6", func := "vinculum/vinculumlaw12.NewtonSums", spec := "newtonSums", inPlace := ["math/bits.Add64", "math/bits.Sub64"], recurses := true, named := ["math/bits.deBruijn64tab", "math/bits.divideError", "math/bits.overflowError"], apart := false, laid := [("math/bits.deBruijn64tab", laid_math_bits_deBruijn64tab)], narrowed := true }
def NewtonSumsUptoSaid : Prop := newtonSumsUptoRow.holds Tryz.pinned (OpenSpec.upto newtonSumsSpec)

/-- 'vinculumlaw12.NewtonBack', WHERE WHAT IT READS IS OF BULK AT MOST 1048576: true; the input reads as it did. -/
def newtonBackUptoRow : OpenClaim := { program := "ytdafncbodihjhaagreatdoor", sum := "5333a6dcf620760268b015d271d81e569b12654457fc9a4da76d2fcd197bd5a6", func := "vinculum/vinculumlaw12.NewtonBack", spec := "newtonBack", inPlace := ["math/bits.Add64", "math/bits.Sub64"], recurses := true, named := ["math/bits.deBruijn64tab", "math/bits.divideError", "math/bits.overflowError"], apart := false, laid := [("math/bits.deBruijn64tab", laid_math_bits_deBruijn64tab)], narrowed := true }
def NewtonBackUptoSaid : Prop := newtonBackUptoRow.holds Tryz.pinned (OpenSpec.upto newtonBackSpec)

/-- 'vinculumlaw12.NewtonPowers', WHERE WHAT IT READS IS OF BULK AT MOST 1048576: true; the input reads as it did. -/
def newtonPowersUptoRow : OpenClaim := { program := "ytdafncbodihjhaagreatdoor", sum := "5333a6dcf620760268b015d271d81e569b12654457fc9a4da76d2fcd197bd5a6", func := "vinculum/vinculumlaw12.NewtonPowers", spec := "newtonPowers", inPlace := ["math/bits.Add64", "math/bits.Sub64"], recurses := true, named := ["math/bits.deBruijn64tab", "math/bits.divideError", "math/bits.overflowError"], apart := false, laid := [("math/bits.deBruijn64tab", laid_math_bits_deBruijn64tab)], narrowed := true }
def NewtonPowersUptoSaid : Prop := newtonPowersUptoRow.holds Tryz.pinned (OpenSpec.upto newtonPowersSpec)

/-- 'vinculumlaw12.NewtonRows', WHERE WHAT IT READS IS OF BULK AT MOST 1048576: true; the input reads as it did. -/
def newtonRowsUptoRow : OpenClaim := { program := "ytdafncbodihjhaagreatdoor", sum := "5333a6dcf620760268b015d271d81e569b12654457fc9a4da76d2fcd197bd5a6", func := "vinculum/vinculumlaw12.NewtonRows", spec := "newtonRows", inPlace := ["math/bits.Add64", "math/bits.Sub64"], recurses := true, named := ["math/bits.deBruijn64tab", "math/bits.divideError", "math/bits.overflowError"], apart := false, laid := [("math/bits.deBruijn64tab", laid_math_bits_deBruijn64tab)], narrowed := true }
def NewtonRowsUptoSaid : Prop := newtonRowsUptoRow.holds Tryz.pinned (OpenSpec.upto newtonRowsSpec)

/-- 'vinculumlaw12.NewtonSteady', WHERE WHAT IT READS IS OF BULK AT MOST 1048576: true; the input reads as it did. -/
def newtonSteadyUptoRow : OpenClaim := { program := "ytdafncbodihjhaagreatdoor", sum := "5333a6dcf620760268b015d271d81e569b12654457fc9a4da76d2fcd197bd5a6", func := "vinculum/vinculumlaw12.NewtonSteady", spec := "newtonSteady", inPlace := ["math/bits.Add64", "math/bits.Sub64"], recurses := true, named := ["math/bits.deBruijn64tab", "math/bits.divideError", "math/bits.overflowError"], apart := false, laid := [("math/bits.deBruijn64tab", laid_math_bits_deBruijn64tab)], narrowed := true }
def NewtonSteadyUptoSaid : Prop := newtonSteadyUptoRow.holds Tryz.pinned (OpenSpec.upto newtonSteadySpec)

/-- 'vinculumlaw12.NewtonNil', WHERE WHAT IT READS IS OF BULK AT MOST 1048576: true; the input reads as it did. -/
def newtonNilUptoRow : OpenClaim := { program := "ytdafncbodihjhaagreatdoor", sum := "5333a6dcf620760268b015d271d81e569b12654457fc9a4da76d2fcd197bd5a6", func := "vinculum/vinculumlaw12.NewtonNil", spec := "newtonNil", inPlace := ["math/bits.Add64", "math/bits.Sub64"], recurses := true, named := ["math/bits.divideError", "math/bits.overflowError", "math/bits.deBruijn64tab"], apart := false, laid := [("math/bits.deBruijn64tab", laid_math_bits_deBruijn64tab)], narrowed := true }
def NewtonNilUptoSaid : Prop := newtonNilUptoRow.holds Tryz.pinned (OpenSpec.upto newtonNilSpec)

end Rows
end Go.Proofs.YtdafncbodihjhaaGreatDoor
