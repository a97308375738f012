/- MostOf and FewestOf of the reference; hashes; drawn streams. -/
import Derived.Test.YtoakchnegkmepaaDoorS5
set_option linter.unusedSimpArgs false
set_option linter.unusedVariables false
set_option maxRecDepth 100000
namespace Go.Pv
open Go Go.Proofs

end Go.Pv
