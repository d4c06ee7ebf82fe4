/- From a statement's input to the values of the walks. -/
import Derived.Test.YtkfdcmlmjmmgmaaVincN
import Derived.OpenShut
import Derived.ChangeOld
namespace Vinc
open Go Go.RowKit

theorem word_of {a : Int} (w : (Lit.int .u64 a).wf = true) : ∃ n : Nat, a = (n : Int) ∧ n < 18446744073709551616 := by
  have h : 0 ≤ a ∧ a < 18446744073709551616 := by
    simp [Lit.wf, IntKind.min, IntKind.max, IntKind.signed, IntKind.bits] at w
    omega
  exact ⟨a.toNat, by omega, by omega⟩

end Vinc
