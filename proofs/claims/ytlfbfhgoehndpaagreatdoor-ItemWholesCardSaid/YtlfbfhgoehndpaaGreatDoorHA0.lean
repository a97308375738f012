/- The library of this work, H texts, part A0: what is known of package variables. Printed by gp.py. -/
import Derived.Calls
import Derived.Lib.AppendStr
import Derived.Test.YtlfbfhgoehndpaaGreatDoorProg
import Derived.Lib.LaidTab
import Derived.Lib.TrailingZeros
import Derived.Shelf.Unicode.DecodeSlow
namespace Go.Pv
open Go Go.Proofs
def GP (w : World) : Prop := (∃ m : Int, w.cell? ⟨2, 0, none⟩ = some (.int .i64 m)) ∧ Go.Lib.Utf8Tabs 0 1 w ∧ Go.Lib.TabIs Tryz.prog w "math/bits.deBruijn64tab" .u8 (Go.Lib.deBruijn64tab.map fun n : Nat => (n : Int)) ∧ (∃ ev, w.cell? ⟨4, 0, none⟩ = some ev ∧ (ev = .nilIface ∨ ∃ te pe, ev = .iface te pe)) ∧ (∃ ev, w.cell? ⟨5, 0, none⟩ = some ev ∧ (ev = .nilIface ∨ ∃ te pe, ev = .iface te pe))
theorem GP.maxLen {w : World} (h : GP w) : (∃ m : Int, w.cell? ⟨2, 0, none⟩ = some (.int .i64 m)) := h.1
theorem GP.utf8 {w : World} (h : GP w) : Go.Lib.Utf8Tabs 0 1 w := h.2.1
theorem GP.tz {w : World} (h : GP w) : Go.Lib.TabIs Tryz.prog w "math/bits.deBruijn64tab" .u8 (Go.Lib.deBruijn64tab.map fun n : Nat => (n : Int)) := h.2.2.1
theorem GP.errSyntax {w : World} (h : GP w) : (∃ ev, w.cell? ⟨4, 0, none⟩ = some ev ∧ (ev = .nilIface ∨ ∃ te pe, ev = .iface te pe)) := h.2.2.2.1
theorem GP.errRange {w : World} (h : GP w) : (∃ ev, w.cell? ⟨5, 0, none⟩ = some ev ∧ (ev = .nilIface ∨ ∃ te pe, ev = .iface te pe)) := h.2.2.2.2
/-- strings.Builder, and byte, by their numbers. -/
def bldT : Nat := 128
def bldE : Nat := 5
end Go.Pv
