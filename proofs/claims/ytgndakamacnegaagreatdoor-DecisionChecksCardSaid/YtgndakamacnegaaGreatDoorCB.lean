/- The contract of the law DecisionChecks. -/
import Derived.Test.YtgndakamacnegaaGreatDoorCA
import Derived.Test.YtgndakamacnegaaGreatDoorC7
set_option linter.unusedSimpArgs false
set_option linter.unusedVariables false
set_option maxRecDepth 100000
namespace Go.Pv
open Go Go.Proofs

theorem DecisionChecks_spec (ls : List Int) : SpecB Tryz.prog 3 [ints ls] [] [.bool true] [] := law_spec (DecisionChecks_ok 1000000 0 ls (by omega))
end Go.Pv
