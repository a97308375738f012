/- What all laws of chapter 6 end with; contracts of laws. -/
import Derived.Test.YtgffjfhdcdpolaaGreatDoorC1
import Derived.Test.YtgffjfhdcdpolaaGreatDoorR1
set_option linter.unusedSimpArgs false
set_option linter.unusedVariables false
set_option maxRecDepth 100000
namespace Go.Pv
open Go Go.Proofs

theorem decides_ok (fu n : Nat) (hfu : 1000000 ≤ fu) : ev fu (n + 20) 15 [] [] = some ([.bool true], []) := by
  obtain ⟨q, rfl⟩ : ∃ q, fu = q + 50 := ⟨fu - 50, by omega⟩
  kernel_rfl
def ints (xs : List Int) : MV := .list (xs.map fun x => [.int .i64 x])
theorem law_spec {g : FuncId} {fu n : Nat} {ls : List Int} (h : ev fu n g [.list (ls.map i1)] [] = some ([.bool true], [])) : SpecB Tryz.prog g [ints ls] [] [.bool true] [] :=
  ev_sound fu n g [ints ls] [] _ _ h
end Go.Pv
