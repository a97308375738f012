/- The contract of the law SampleAllocates. -/
import Derived.Test.YtoakchnegkmepaaSK
set_option linter.unusedSimpArgs false
set_option linter.unusedVariables false
set_option maxRecDepth 100000
namespace Go.Pv
open Go Go.Proofs

def ints (xs : List Int) : MV := .list (xs.map fun x => [.int .i64 x])
theorem law_spec {g : FuncId} {fu n : Nat} {ls : List Int} (h : ev fu n g [.list (ls.map i1)] [] = some ([.bool true], [])) : SpecB Try.prog g [ints ls] [] [.bool true] [] :=
  ev_sound fu n g [ints ls] [] _ _ h
theorem SampleAllocates_spec (ls : List Int) : SpecB Try.prog 12 [ints ls] [] [.bool true] [] :=
  law_spec (SampleAllocates_ok 1000000 0 ls (Nat.le_refl _))
end Go.Pv
