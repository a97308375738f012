/- The contract of the law ValueChecks. -/
import Derived.Test.YtgndakamacnegaaGreatDoorC6
import Derived.Test.YtgndakamacnegaaGreatDoorR1
set_option linter.unusedSimpArgs false
set_option linter.unusedVariables false
set_option maxRecDepth 100000
namespace Go.Pv
open Go Go.Proofs

def ints (xs : List Int) : MV := .list (xs.map fun x => [.int .i64 x])
theorem law_spec {g : FuncId} {fu n : Nat} {ls : List Int} (h : ev fu n g [.list (ls.map i1)] [] = some ([.bool true], [])) : SpecB Tryz.prog g [ints ls] [] [.bool true] [] :=
  ev_sound fu n g [ints ls] [] _ _ h
end Go.Pv
