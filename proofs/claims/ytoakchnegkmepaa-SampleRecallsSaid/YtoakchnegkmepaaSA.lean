/- The contract of the law SampleMosts. -/
import Derived.Test.YtoakchnegkmepaaS9
set_option linter.unusedSimpArgs false
set_option linter.unusedVariables false
set_option maxRecDepth 100000
namespace Go.Pv
open Go Go.Proofs

def ints (xs : List Int) : MV := .list (xs.map fun x => [.int .i64 x])
theorem law_spec {g : FuncId} {fu n : Nat} {ls : List Int} (h : ev fu n g [.list (ls.map i1)] [] = some ([(none, .bool true)], [])) : Spec Try.prog g [ints ls] [(none, .bool true)] :=
  (ev_sound fu n).plain g [ints ls] _ _ h (by simp [ints, npL_cons, npLL_mapF])
theorem SampleMosts_spec (ls : List Int) : Spec Try.prog 3 [ints ls] [(none, .bool true)] :=
  law_spec (SampleMosts_ok 1000000 0 ls (Nat.le_refl _))

end Go.Pv

