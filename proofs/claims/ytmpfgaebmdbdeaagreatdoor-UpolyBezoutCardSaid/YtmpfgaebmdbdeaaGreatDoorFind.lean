/- The search for a rule, walked. -/
import Derived.Test.YtmpfgaebmdbdeaaGreatDoorRec
set_option linter.unusedVariables false
namespace Go.Proofs
open Go Vinc Vinc.Num

end Go.Proofs
