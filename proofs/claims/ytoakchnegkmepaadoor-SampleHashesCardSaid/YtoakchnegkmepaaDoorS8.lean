/- What the streams draw for samples; the laws. -/
import Derived.Test.YtoakchnegkmepaaDoorS7
set_option linter.unusedSimpArgs false
set_option linter.unusedVariables false
set_option maxRecDepth 100000
namespace Go.Pv
open Go Go.Proofs

theorem npO_sbL {l : List MV} {ls : List Int} {a : Int} (h : npL l = true) : npO 1 (some ([(none, .agg l)], [some [.sh (.list (ls.map i1)), .sh (.int .i64 a)]])) = some ([(none, .agg l)], sb ls a) := npO_sb (by simp [h])

theorem mm2_min (a b : Int) : mm2 false a b = min a b := by unfold mm2; simp only [if_false, Bool.false_eq_true]; omega

end Go.Pv
