/-
  No cell of these rows narrows 'for every input' (looked for: loops, veiled, ifaces, maps, wideKeys, modest, calm, conditions, laid).
  DERIVED. THE GIVEN ROWS OF THIS SEAT. 8 by the template 'for every input the law returns true; each argument reads behind the call as it read before'; 0 by the template 'total and deterministic' (their statements: YtkfdcmlmjmmgmaaTotals.lean).
  GIVEN WITH THE SEED: the statements are not yours to turn. If you find one false, say at which input.
  Laid BY PROGRAM, IN A SANDBOX (cutbox-rows.mjs): the forced cells as the released guide's own fill.sh prints them over the translation 7a9a4cf5bf903784… (all of the seat's roots in one cut). By AI agents, Wed Nov 11 2026. No macro, syntax, notation, axiom, sorry.
-/
import Derived.Test.YtkfdcmlmjmmgmaaChecked
import GoSem.Claim
import GoSem.ClaimJoined
import GoSem.ClaimMapViews
import Derived.JoinedTies
import Derived.KernelRfl
namespace Go.Proofs.Ytkfdcmlmjmmgmaa
/- THE CELL 'sum', in the pinned program and in every row, IS THE sha256 OF THE DUMP (.gsa) THAT YtkfdcmlmjmmgmaaProg.lean LOADS. Nothing in Lean hashes anything: it is a label: what it is worth is what the hold of that sum in a sandbox is worth. -/
noncomputable def Try.pinned : Pinned := { name := "ytkfdcmlmjmmgmaa", sum := "7a9a4cf5bf903784284e056402362a2016c8c4b8bcd18f007e8eb302a3d0b371", checked := Try.checked }
namespace Rows
def none {H : Type} : Left H := { results := [], args := [] }

/-- 'vinculumlaw03.WordInverts': WHATEVER THE INPUT: true; the input reads as it did. -/
def wordInvertsSpec : ChangeSpec := { name := "wordInverts", fn := fun _ => fun
  | [d1, d2] => { results := [.lit (.bool true)], args := [d1, d2] }
  | _ => none }
def wordInvertsRow : OpenClaim := { program := "ytkfdcmlmjmmgmaa", sum := "7a9a4cf5bf903784284e056402362a2016c8c4b8bcd18f007e8eb302a3d0b371", func := "vinculum/vinculumlaw03.WordInverts", spec := "wordInverts", inPlace := ["math/bits.Add64"], named := ["math/bits.divideError", "math/bits.overflowError"], apart := false }
def WordInvertsSaid : Prop := wordInvertsRow.holds Try.pinned (OpenSpec.ofChange wordInvertsSpec)

/-- ITS FALSE NEIGHBOUR: 'it returns false'. Refute it at one input. -/
def wordInvertsWrong : ChangeSpec := { name := "wordInverts", fn := fun _ => fun
  | [d1, d2] => { results := [.lit (.bool false)], args := [d1, d2] }
  | _ => none }
def WordInvertsWrongFalsely : Prop := wordInvertsRow.holds Try.pinned (OpenSpec.ofChange wordInvertsWrong)

/-- 'vinculumlaw03.WordForms': WHATEVER THE INPUT: true; the input reads as it did. -/
def wordFormsSpec : ChangeSpec := { name := "wordForms", fn := fun _ => fun
  | [d1, d2, d3] => { results := [.lit (.bool true)], args := [d1, d2, d3] }
  | _ => none }
def wordFormsRow : OpenClaim := { program := "ytkfdcmlmjmmgmaa", sum := "7a9a4cf5bf903784284e056402362a2016c8c4b8bcd18f007e8eb302a3d0b371", func := "vinculum/vinculumlaw03.WordForms", spec := "wordForms", inPlace := ["math/bits.Add64"], named := ["math/bits.divideError", "math/bits.overflowError"], apart := false }
def WordFormsSaid : Prop := wordFormsRow.holds Try.pinned (OpenSpec.ofChange wordFormsSpec)

/-- ITS FALSE NEIGHBOUR: 'it returns false'. Refute it at one input. -/
def wordFormsWrong : ChangeSpec := { name := "wordForms", fn := fun _ => fun
  | [d1, d2, d3] => { results := [.lit (.bool false)], args := [d1, d2, d3] }
  | _ => none }
def WordFormsWrongFalsely : Prop := wordFormsRow.holds Try.pinned (OpenSpec.ofChange wordFormsWrong)

/-- 'vinculumlaw03.WordAdds': WHATEVER THE INPUT: true; the input reads as it did. -/
def wordAddsSpec : ChangeSpec := { name := "wordAdds", fn := fun _ => fun
  | [d1, d2, d3] => { results := [.lit (.bool true)], args := [d1, d2, d3] }
  | _ => none }
def wordAddsRow : OpenClaim := { program := "ytkfdcmlmjmmgmaa", sum := "7a9a4cf5bf903784284e056402362a2016c8c4b8bcd18f007e8eb302a3d0b371", func := "vinculum/vinculumlaw03.WordAdds", spec := "wordAdds", inPlace := ["math/bits.Add64"], named := ["math/bits.divideError", "math/bits.overflowError"], apart := false }
def WordAddsSaid : Prop := wordAddsRow.holds Try.pinned (OpenSpec.ofChange wordAddsSpec)

/-- ITS FALSE NEIGHBOUR: 'it returns false'. Refute it at one input. -/
def wordAddsWrong : ChangeSpec := { name := "wordAdds", fn := fun _ => fun
  | [d1, d2, d3] => { results := [.lit (.bool false)], args := [d1, d2, d3] }
  | _ => none }
def WordAddsWrongFalsely : Prop := wordAddsRow.holds Try.pinned (OpenSpec.ofChange wordAddsWrong)

/-- 'vinculumlaw03.WordRing': WHATEVER THE INPUT: true; the input reads as it did. -/
def wordRingSpec : ChangeSpec := { name := "wordRing", fn := fun _ => fun
  | [d1, d2] => { results := [.lit (.bool true)], args := [d1, d2] }
  | _ => none }
def wordRingRow : OpenClaim := { program := "ytkfdcmlmjmmgmaa", sum := "7a9a4cf5bf903784284e056402362a2016c8c4b8bcd18f007e8eb302a3d0b371", func := "vinculum/vinculumlaw03.WordRing", spec := "wordRing", inPlace := ["math/bits.Add64"], named := ["math/bits.divideError", "math/bits.overflowError"], apart := false }
def WordRingSaid : Prop := wordRingRow.holds Try.pinned (OpenSpec.ofChange wordRingSpec)

/-- ITS FALSE NEIGHBOUR: 'it returns false'. Refute it at one input. -/
def wordRingWrong : ChangeSpec := { name := "wordRing", fn := fun _ => fun
  | [d1, d2] => { results := [.lit (.bool false)], args := [d1, d2] }
  | _ => none }
def WordRingWrongFalsely : Prop := wordRingRow.holds Try.pinned (OpenSpec.ofChange wordRingWrong)

/-- 'vinculumlaw03.WordPowers': WHATEVER THE INPUT: true; the input reads as it did. -/
def wordPowersSpec : ChangeSpec := { name := "wordPowers", fn := fun _ => fun
  | [d1, d2, d3] => { results := [.lit (.bool true)], args := [d1, d2, d3] }
  | _ => none }
def wordPowersRow : OpenClaim := { program := "ytkfdcmlmjmmgmaa", sum := "7a9a4cf5bf903784284e056402362a2016c8c4b8bcd18f007e8eb302a3d0b371", func := "vinculum/vinculumlaw03.WordPowers", spec := "wordPowers", inPlace := ["math/bits.Add64"], named := ["math/bits.divideError", "math/bits.overflowError"], apart := false }
def WordPowersSaid : Prop := wordPowersRow.holds Try.pinned (OpenSpec.ofChange wordPowersSpec)

/-- ITS FALSE NEIGHBOUR: 'it returns false'. Refute it at one input. -/
def wordPowersWrong : ChangeSpec := { name := "wordPowers", fn := fun _ => fun
  | [d1, d2, d3] => { results := [.lit (.bool false)], args := [d1, d2, d3] }
  | _ => none }
def WordPowersWrongFalsely : Prop := wordPowersRow.holds Try.pinned (OpenSpec.ofChange wordPowersWrong)

/-- 'vinculumlaw03.WordExponents': WHATEVER THE INPUT: true; the input reads as it did. -/
def wordExponentsSpec : ChangeSpec := { name := "wordExponents", fn := fun _ => fun
  | [d1, d2, d3] => { results := [.lit (.bool true)], args := [d1, d2, d3] }
  | _ => none }
def wordExponentsRow : OpenClaim := { program := "ytkfdcmlmjmmgmaa", sum := "7a9a4cf5bf903784284e056402362a2016c8c4b8bcd18f007e8eb302a3d0b371", func := "vinculum/vinculumlaw03.WordExponents", spec := "wordExponents", inPlace := ["math/bits.Add64"], named := ["math/bits.divideError", "math/bits.overflowError"], apart := false }
def WordExponentsSaid : Prop := wordExponentsRow.holds Try.pinned (OpenSpec.ofChange wordExponentsSpec)

/-- ITS FALSE NEIGHBOUR: 'it returns false'. Refute it at one input. -/
def wordExponentsWrong : ChangeSpec := { name := "wordExponents", fn := fun _ => fun
  | [d1, d2, d3] => { results := [.lit (.bool false)], args := [d1, d2, d3] }
  | _ => none }
def WordExponentsWrongFalsely : Prop := wordExponentsRow.holds Try.pinned (OpenSpec.ofChange wordExponentsWrong)

/-- 'vinculumlaw03.WordAll': WHATEVER THE INPUT: true; the input reads as it did. -/
def wordAllSpec : ChangeSpec := { name := "wordAll", fn := fun _ => fun
  | [d1, d2] => { results := [.lit (.bool true)], args := [d1, d2] }
  | _ => none }
def wordAllRow : OpenClaim := { program := "ytkfdcmlmjmmgmaa", sum := "7a9a4cf5bf903784284e056402362a2016c8c4b8bcd18f007e8eb302a3d0b371", func := "vinculum/vinculumlaw03.WordAll", spec := "wordAll", inPlace := ["math/bits.Add64"], named := ["math/bits.divideError", "math/bits.overflowError"], apart := false }
def WordAllSaid : Prop := wordAllRow.holds Try.pinned (OpenSpec.ofChange wordAllSpec)

/-- ITS FALSE NEIGHBOUR: 'it returns false'. Refute it at one input. -/
def wordAllWrong : ChangeSpec := { name := "wordAll", fn := fun _ => fun
  | [d1, d2] => { results := [.lit (.bool false)], args := [d1, d2] }
  | _ => none }
def WordAllWrongFalsely : Prop := wordAllRow.holds Try.pinned (OpenSpec.ofChange wordAllWrong)

/-- 'vinculumlaw03.WordNil': WHATEVER THE INPUT: true; the input reads as it did. -/
def wordNilSpec : ChangeSpec := { name := "wordNil", fn := fun _ => fun
  | [d1, d2] => { results := [.lit (.bool true)], args := [d1, d2] }
  | _ => none }
def wordNilRow : OpenClaim := { program := "ytkfdcmlmjmmgmaa", sum := "7a9a4cf5bf903784284e056402362a2016c8c4b8bcd18f007e8eb302a3d0b371", func := "vinculum/vinculumlaw03.WordNil", spec := "wordNil", inPlace := ["math/bits.Add64"], named := ["math/bits.divideError", "math/bits.overflowError"], apart := false }
def WordNilSaid : Prop := wordNilRow.holds Try.pinned (OpenSpec.ofChange wordNilSpec)

/-- ITS FALSE NEIGHBOUR: 'it returns false'. Refute it at one input. -/
def wordNilWrong : ChangeSpec := { name := "wordNil", fn := fun _ => fun
  | [d1, d2] => { results := [.lit (.bool false)], args := [d1, d2] }
  | _ => none }
def WordNilWrongFalsely : Prop := wordNilRow.holds Try.pinned (OpenSpec.ofChange wordNilWrong)

/- THE SECOND FORM. 'bulk': how many values and letters a reading holds, each counted each time it is reached (what is shared counts as often as it is met; a slice's spare places count too). A statement '..UptoSaid' is the law's where the arguments, and the package variables that the reading takes, are together of bulk at most 1048576: NARROWER than '..Said'. Prove '..Said' where nothing that the law and all that it calls make is longer than what came in: it says more and counts as full. Else prove '..UptoSaid'. A law counts once. -/
mutual
def uptoBulk {H : Type} : DataW H → Nat
  | .lit (.string bytes) => bytes.length + 1
  | .lit _ => 1
  | .nil => 1
  | .ptr d => uptoBulk d + 1
  | .slice elems spare => uptoBulkAll elems + uptoBulkAll spare + 1
  | .agg parts => uptoBulkAll parts + 1
  | .iface _ d => uptoBulk d + 1
  | .map entries => uptoBulkEntries entries + 1
  | .held _ => 1
def uptoBulkAll {H : Type} : List (DataW H) → Nat
  | [] => 0
  | d :: r => uptoBulk d + uptoBulkAll r
def uptoBulkEntries {H : Type} : List (Lit × DataW H) → Nat
  | [] => 0
  | x :: r => uptoBulkEntry x + uptoBulkEntries r
def uptoBulkEntry {H : Type} : Lit × DataW H → Nat
  | (.string bytes, d) => bytes.length + uptoBulk d + 1
  | (_, d) => uptoBulk d + 1
 end
def uptoSmall : (H : Type) → List (DataW H) → Bool := fun _ ds => decide (uptoBulkAll ds ≤ 1048576)
def OpenSpec.upto (s : _root_.Go.ChangeSpec) : _root_.Go.OpenSpec := { _root_.Go.OpenSpec.ofChange s with cond := some uptoSmall }

/-- 'vinculumlaw03.WordInverts', WHERE WHAT IT READS IS OF BULK AT MOST 1048576: true; the input reads as it did. -/
def wordInvertsUptoRow : OpenClaim := { program := "ytkfdcmlmjmmgmaa", sum := "7a9a4cf5bf903784284e056402362a2016c8c4b8bcd18f007e8eb302a3d0b371", func := "vinculum/vinculumlaw03.WordInverts", spec := "wordInverts", inPlace := ["math/bits.Add64"], named := ["math/bits.divideError", "math/bits.overflowError"], apart := false, narrowed := true }
def WordInvertsUptoSaid : Prop := wordInvertsUptoRow.holds Try.pinned (OpenSpec.upto wordInvertsSpec)

/-- 'vinculumlaw03.WordForms', WHERE WHAT IT READS IS OF BULK AT MOST 1048576: true; the input reads as it did. -/
def wordFormsUptoRow : OpenClaim := { program := "ytkfdcmlmjmmgmaa", sum := "7a9a4cf5bf903784284e056402362a2016c8c4b8bcd18f007e8eb302a3d0b371", func := "vinculum/vinculumlaw03.WordForms", spec := "wordForms", inPlace := ["math/bits.Add64"], named := ["math/bits.divideError", "math/bits.overflowError"], apart := false, narrowed := true }
def WordFormsUptoSaid : Prop := wordFormsUptoRow.holds Try.pinned (OpenSpec.upto wordFormsSpec)

/-- 'vinculumlaw03.WordAdds', WHERE WHAT IT READS IS OF BULK AT MOST 1048576: true; the input reads as it did. -/
def wordAddsUptoRow : OpenClaim := { program := "ytkfdcmlmjmmgmaa", sum := "7a9a4cf5bf903784284e056402362a2016c8c4b8bcd18f007e8eb302a3d0b371", func := "vinculum/vinculumlaw03.WordAdds", spec := "wordAdds", inPlace := ["math/bits.Add64"], named := ["math/bits.divideError", "math/bits.overflowError"], apart := false, narrowed := true }
def WordAddsUptoSaid : Prop := wordAddsUptoRow.holds Try.pinned (OpenSpec.upto wordAddsSpec)

/-- 'vinculumlaw03.WordRing', WHERE WHAT IT READS IS OF BULK AT MOST 1048576: true; the input reads as it did. -/
def wordRingUptoRow : OpenClaim := { program := "ytkfdcmlmjmmgmaa", sum := "7a9a4cf5bf903784284e056402362a2016c8c4b8bcd18f007e8eb302a3d0b371", func := "vinculum/vinculumlaw03.WordRing", spec := "wordRing", inPlace := ["math/bits.Add64"], named := ["math/bits.divideError", "math/bits.overflowError"], apart := false, narrowed := true }
def WordRingUptoSaid : Prop := wordRingUptoRow.holds Try.pinned (OpenSpec.upto wordRingSpec)

/-- 'vinculumlaw03.WordPowers', WHERE WHAT IT READS IS OF BULK AT MOST 1048576: true; the input reads as it did. -/
def wordPowersUptoRow : OpenClaim := { program := "ytkfdcmlmjmmgmaa", sum := "7a9a4cf5bf903784284e056402362a2016c8c4b8bcd18f007e8eb302a3d0b371", func := "vinculum/vinculumlaw03.WordPowers", spec := "wordPowers", inPlace := ["math/bits.Add64"], named := ["math/bits.divideError", "math/bits.overflowError"], apart := false, narrowed := true }
def WordPowersUptoSaid : Prop := wordPowersUptoRow.holds Try.pinned (OpenSpec.upto wordPowersSpec)

/-- 'vinculumlaw03.WordExponents', WHERE WHAT IT READS IS OF BULK AT MOST 1048576: true; the input reads as it did. -/
def wordExponentsUptoRow : OpenClaim := { program := "ytkfdcmlmjmmgmaa", sum := "7a9a4cf5bf903784284e056402362a2016c8c4b8bcd18f007e8eb302a3d0b371", func := "vinculum/vinculumlaw03.WordExponents", spec := "wordExponents", inPlace := ["math/bits.Add64"], named := ["math/bits.divideError", "math/bits.overflowError"], apart := false, narrowed := true }
def WordExponentsUptoSaid : Prop := wordExponentsUptoRow.holds Try.pinned (OpenSpec.upto wordExponentsSpec)

/-- 'vinculumlaw03.WordAll', WHERE WHAT IT READS IS OF BULK AT MOST 1048576: true; the input reads as it did. -/
def wordAllUptoRow : OpenClaim := { program := "ytkfdcmlmjmmgmaa", sum := "7a9a4cf5bf903784284e056402362a2016c8c4b8bcd18f007e8eb302a3d0b371", func := "vinculum/vinculumlaw03.WordAll", spec := "wordAll", inPlace := ["math/bits.Add64"], named := ["math/bits.divideError", "math/bits.overflowError"], apart := false, narrowed := true }
def WordAllUptoSaid : Prop := wordAllUptoRow.holds Try.pinned (OpenSpec.upto wordAllSpec)

/-- 'vinculumlaw03.WordNil', WHERE WHAT IT READS IS OF BULK AT MOST 1048576: true; the input reads as it did. -/
def wordNilUptoRow : OpenClaim := { program := "ytkfdcmlmjmmgmaa", sum := "7a9a4cf5bf903784284e056402362a2016c8c4b8bcd18f007e8eb302a3d0b371", func := "vinculum/vinculumlaw03.WordNil", spec := "wordNil", inPlace := ["math/bits.Add64"], named := ["math/bits.divideError", "math/bits.overflowError"], apart := false, narrowed := true }
def WordNilUptoSaid : Prop := wordNilUptoRow.holds Try.pinned (OpenSpec.upto wordNilSpec)

end Rows
end Go.Proofs.Ytkfdcmlmjmmgmaa
