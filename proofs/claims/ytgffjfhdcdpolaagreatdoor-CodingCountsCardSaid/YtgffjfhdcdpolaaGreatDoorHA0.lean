/- The library of this work, H texts, part A0: what is known of package variables. Printed by gp.py. -/
import Derived.Calls
import Derived.Test.YtgffjfhdcdpolaaGreatDoorProg
import Derived.Lib.LaidTab
import Derived.Lib.Space
import Derived.Shelf.Unicode.DecodeSlow
namespace Go.Pv
open Go Go.Proofs
def GP (w : World) : Prop := Go.Lib.TabIs Tryz.prog w "strings.asciiSpace" .u8 Go.Lib.asciiSpaceTab ∧ (∃ m : Int, w.cell? ⟨4, 0, none⟩ = some (.int .i64 m)) ∧ Go.Lib.Utf8Tabs 2 3 w
theorem GP.asciiSpace {w : World} (h : GP w) : Go.Lib.TabIs Tryz.prog w "strings.asciiSpace" .u8 Go.Lib.asciiSpaceTab := h.1
theorem GP.maxLen {w : World} (h : GP w) : (∃ m : Int, w.cell? ⟨4, 0, none⟩ = some (.int .i64 m)) := h.2.1
theorem GP.utf8 {w : World} (h : GP w) : Go.Lib.Utf8Tabs 2 3 w := h.2.2
end Go.Pv
