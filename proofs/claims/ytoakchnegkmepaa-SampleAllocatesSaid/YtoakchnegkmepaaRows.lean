/-
  No cell of these rows narrows 'for every input' (looked for: loops, veiled, ifaces, maps, wideKeys, modest, calm, conditions, laid).
  DERIVED. THE GIVEN ROWS OF THIS SEAT. 10 by the template 'for every input the law returns true; each argument reads behind the call as it read before'; 0 by the template 'total and deterministic' (their statements: YtoakchnegkmepaaTotals.lean).
  GIVEN WITH THE SEED: the statements are not yours to turn. If you find one false, say at which input.
  Laid BY PROGRAM, IN A SANDBOX (cutbox-rows.mjs): the forced cells as the released guide's own fill.sh prints them over the translation 89f6aa011ee951fe… (all of the seat's roots in one cut). By AI agents, Wed Nov 11 2026. No macro, syntax, notation, axiom, sorry.
-/
import Derived.Test.YtoakchnegkmepaaChecked
import GoSem.Claim
import GoSem.ClaimJoined
import GoSem.ClaimMapViews
import Derived.JoinedTies
import Derived.KernelRfl
namespace Go.Proofs.Ytoakchnegkmepaa
/- THE CELL 'sum', in the pinned program and in every row, IS THE sha256 OF THE DUMP (.gsa) THAT YtoakchnegkmepaaProg.lean LOADS. Nothing in Lean hashes anything: it is a label: what it is worth is what the hold of that sum in a sandbox is worth. -/
noncomputable def Try.pinned : Pinned := { name := "ytoakchnegkmepaa", sum := "89f6aa011ee951fe1b466f61dec45aee97b7e4f90ab38456c139694415c54878", checked := Try.checked }
namespace Rows
def none {H : Type} : Left H := { results := [], args := [] }

/-- 'chaselaw2.SampleMosts': WHATEVER THE INPUT: true; the input reads as it did. -/
def sampleMostsSpec : ChangeSpec := { name := "sampleMosts", fn := fun _ => fun
  | [d] => { results := [.lit (.bool true)], args := [d] }
  | _ => none }
def sampleMostsRow : OpenClaim := { program := "ytoakchnegkmepaa", sum := "89f6aa011ee951fe1b466f61dec45aee97b7e4f90ab38456c139694415c54878", func := "paperchase/chaselaw2.SampleMosts", spec := "sampleMosts", unfollowed := true, recurses := true, named := ["math/bits.overflowError"], apart := false }
def SampleMostsSaid : Prop := sampleMostsRow.holds Try.pinned (OpenSpec.ofChange sampleMostsSpec)

/-- ITS FALSE NEIGHBOUR: 'it returns false'. Refute it at one input. -/
def sampleMostsWrong : ChangeSpec := { name := "sampleMosts", fn := fun _ => fun
  | [d] => { results := [.lit (.bool false)], args := [d] }
  | _ => none }
def SampleMostsWrongFalsely : Prop := sampleMostsRow.holds Try.pinned (OpenSpec.ofChange sampleMostsWrong)

/-- 'chaselaw2.SampleEnough': WHATEVER THE INPUT: true; the input reads as it did. -/
def sampleEnoughSpec : ChangeSpec := { name := "sampleEnough", fn := fun _ => fun
  | [d] => { results := [.lit (.bool true)], args := [d] }
  | _ => none }
def sampleEnoughRow : OpenClaim := { program := "ytoakchnegkmepaa", sum := "89f6aa011ee951fe1b466f61dec45aee97b7e4f90ab38456c139694415c54878", func := "paperchase/chaselaw2.SampleEnough", spec := "sampleEnough", unfollowed := true, recurses := true, named := ["math/bits.overflowError"], apart := false }
def SampleEnoughSaid : Prop := sampleEnoughRow.holds Try.pinned (OpenSpec.ofChange sampleEnoughSpec)

/-- ITS FALSE NEIGHBOUR: 'it returns false'. Refute it at one input. -/
def sampleEnoughWrong : ChangeSpec := { name := "sampleEnough", fn := fun _ => fun
  | [d] => { results := [.lit (.bool false)], args := [d] }
  | _ => none }
def SampleEnoughWrongFalsely : Prop := sampleEnoughRow.holds Try.pinned (OpenSpec.ofChange sampleEnoughWrong)

/-- 'chaselaw2.SampleEstimates': WHATEVER THE INPUT: true; the input reads as it did. -/
def sampleEstimatesSpec : ChangeSpec := { name := "sampleEstimates", fn := fun _ => fun
  | [d] => { results := [.lit (.bool true)], args := [d] }
  | _ => none }
def sampleEstimatesRow : OpenClaim := { program := "ytoakchnegkmepaa", sum := "89f6aa011ee951fe1b466f61dec45aee97b7e4f90ab38456c139694415c54878", func := "paperchase/chaselaw2.SampleEstimates", spec := "sampleEstimates", unfollowed := true, recurses := true, named := ["math/bits.overflowError"], apart := false }
def SampleEstimatesSaid : Prop := sampleEstimatesRow.holds Try.pinned (OpenSpec.ofChange sampleEstimatesSpec)

/-- ITS FALSE NEIGHBOUR: 'it returns false'. Refute it at one input. -/
def sampleEstimatesWrong : ChangeSpec := { name := "sampleEstimates", fn := fun _ => fun
  | [d] => { results := [.lit (.bool false)], args := [d] }
  | _ => none }
def SampleEstimatesWrongFalsely : Prop := sampleEstimatesRow.holds Try.pinned (OpenSpec.ofChange sampleEstimatesWrong)

/-- 'chaselaw2.SampleCosts': WHATEVER THE INPUT: true; the input reads as it did. -/
def sampleCostsSpec : ChangeSpec := { name := "sampleCosts", fn := fun _ => fun
  | [d] => { results := [.lit (.bool true)], args := [d] }
  | _ => none }
def sampleCostsRow : OpenClaim := { program := "ytoakchnegkmepaa", sum := "89f6aa011ee951fe1b466f61dec45aee97b7e4f90ab38456c139694415c54878", func := "paperchase/chaselaw2.SampleCosts", spec := "sampleCosts", unfollowed := true, recurses := true, named := ["math/bits.overflowError"], apart := false }
def SampleCostsSaid : Prop := sampleCostsRow.holds Try.pinned (OpenSpec.ofChange sampleCostsSpec)

/-- ITS FALSE NEIGHBOUR: 'it returns false'. Refute it at one input. -/
def sampleCostsWrong : ChangeSpec := { name := "sampleCosts", fn := fun _ => fun
  | [d] => { results := [.lit (.bool false)], args := [d] }
  | _ => none }
def SampleCostsWrongFalsely : Prop := sampleCostsRow.holds Try.pinned (OpenSpec.ofChange sampleCostsWrong)

/-- 'chaselaw2.SampleRecalls': WHATEVER THE INPUT: true; the input reads as it did. -/
def sampleRecallsSpec : ChangeSpec := { name := "sampleRecalls", fn := fun _ => fun
  | [d] => { results := [.lit (.bool true)], args := [d] }
  | _ => none }
def sampleRecallsRow : OpenClaim := { program := "ytoakchnegkmepaa", sum := "89f6aa011ee951fe1b466f61dec45aee97b7e4f90ab38456c139694415c54878", func := "paperchase/chaselaw2.SampleRecalls", spec := "sampleRecalls", unfollowed := true, recurses := true, named := ["math/bits.overflowError"], apart := false }
def SampleRecallsSaid : Prop := sampleRecallsRow.holds Try.pinned (OpenSpec.ofChange sampleRecallsSpec)

/-- ITS FALSE NEIGHBOUR: 'it returns false'. Refute it at one input. -/
def sampleRecallsWrong : ChangeSpec := { name := "sampleRecalls", fn := fun _ => fun
  | [d] => { results := [.lit (.bool false)], args := [d] }
  | _ => none }
def SampleRecallsWrongFalsely : Prop := sampleRecallsRow.holds Try.pinned (OpenSpec.ofChange sampleRecallsWrong)

/-- 'chaselaw2.SampleJudges': WHATEVER THE INPUT: true; the input reads as it did. -/
def sampleJudgesSpec : ChangeSpec := { name := "sampleJudges", fn := fun _ => fun
  | [d] => { results := [.lit (.bool true)], args := [d] }
  | _ => none }
def sampleJudgesRow : OpenClaim := { program := "ytoakchnegkmepaa", sum := "89f6aa011ee951fe1b466f61dec45aee97b7e4f90ab38456c139694415c54878", func := "paperchase/chaselaw2.SampleJudges", spec := "sampleJudges", unfollowed := true, recurses := true, named := ["math/bits.overflowError"], apart := false }
def SampleJudgesSaid : Prop := sampleJudgesRow.holds Try.pinned (OpenSpec.ofChange sampleJudgesSpec)

/-- ITS FALSE NEIGHBOUR: 'it returns false'. Refute it at one input. -/
def sampleJudgesWrong : ChangeSpec := { name := "sampleJudges", fn := fun _ => fun
  | [d] => { results := [.lit (.bool false)], args := [d] }
  | _ => none }
def SampleJudgesWrongFalsely : Prop := sampleJudgesRow.holds Try.pinned (OpenSpec.ofChange sampleJudgesWrong)

/-- 'chaselaw2.SampleDepths': WHATEVER THE INPUT: true; the input reads as it did. -/
def sampleDepthsSpec : ChangeSpec := { name := "sampleDepths", fn := fun _ => fun
  | [d] => { results := [.lit (.bool true)], args := [d] }
  | _ => none }
def sampleDepthsRow : OpenClaim := { program := "ytoakchnegkmepaa", sum := "89f6aa011ee951fe1b466f61dec45aee97b7e4f90ab38456c139694415c54878", func := "paperchase/chaselaw2.SampleDepths", spec := "sampleDepths", unfollowed := true, recurses := true, named := ["math/bits.overflowError"], apart := false }
def SampleDepthsSaid : Prop := sampleDepthsRow.holds Try.pinned (OpenSpec.ofChange sampleDepthsSpec)

/-- ITS FALSE NEIGHBOUR: 'it returns false'. Refute it at one input. -/
def sampleDepthsWrong : ChangeSpec := { name := "sampleDepths", fn := fun _ => fun
  | [d] => { results := [.lit (.bool false)], args := [d] }
  | _ => none }
def SampleDepthsWrongFalsely : Prop := sampleDepthsRow.holds Try.pinned (OpenSpec.ofChange sampleDepthsWrong)

/-- 'chaselaw2.SampleGains': WHATEVER THE INPUT: true; the input reads as it did. -/
def sampleGainsSpec : ChangeSpec := { name := "sampleGains", fn := fun _ => fun
  | [d] => { results := [.lit (.bool true)], args := [d] }
  | _ => none }
def sampleGainsRow : OpenClaim := { program := "ytoakchnegkmepaa", sum := "89f6aa011ee951fe1b466f61dec45aee97b7e4f90ab38456c139694415c54878", func := "paperchase/chaselaw2.SampleGains", spec := "sampleGains", unfollowed := true, recurses := true, named := ["math/bits.overflowError"], apart := false }
def SampleGainsSaid : Prop := sampleGainsRow.holds Try.pinned (OpenSpec.ofChange sampleGainsSpec)

/-- ITS FALSE NEIGHBOUR: 'it returns false'. Refute it at one input. -/
def sampleGainsWrong : ChangeSpec := { name := "sampleGains", fn := fun _ => fun
  | [d] => { results := [.lit (.bool false)], args := [d] }
  | _ => none }
def SampleGainsWrongFalsely : Prop := sampleGainsRow.holds Try.pinned (OpenSpec.ofChange sampleGainsWrong)

/-- 'chaselaw2.SampleStops': WHATEVER THE INPUT: true; the input reads as it did. -/
def sampleStopsSpec : ChangeSpec := { name := "sampleStops", fn := fun _ => fun
  | [d] => { results := [.lit (.bool true)], args := [d] }
  | _ => none }
def sampleStopsRow : OpenClaim := { program := "ytoakchnegkmepaa", sum := "89f6aa011ee951fe1b466f61dec45aee97b7e4f90ab38456c139694415c54878", func := "paperchase/chaselaw2.SampleStops", spec := "sampleStops", unfollowed := true, recurses := true, named := ["math/bits.overflowError"], apart := false }
def SampleStopsSaid : Prop := sampleStopsRow.holds Try.pinned (OpenSpec.ofChange sampleStopsSpec)

/-- ITS FALSE NEIGHBOUR: 'it returns false'. Refute it at one input. -/
def sampleStopsWrong : ChangeSpec := { name := "sampleStops", fn := fun _ => fun
  | [d] => { results := [.lit (.bool false)], args := [d] }
  | _ => none }
def SampleStopsWrongFalsely : Prop := sampleStopsRow.holds Try.pinned (OpenSpec.ofChange sampleStopsWrong)

/-- 'chaselaw2.SampleAllocates': WHATEVER THE INPUT: true; the input reads as it did. -/
def sampleAllocatesSpec : ChangeSpec := { name := "sampleAllocates", fn := fun _ => fun
  | [d] => { results := [.lit (.bool true)], args := [d] }
  | _ => none }
def sampleAllocatesRow : OpenClaim := { program := "ytoakchnegkmepaa", sum := "89f6aa011ee951fe1b466f61dec45aee97b7e4f90ab38456c139694415c54878", func := "paperchase/chaselaw2.SampleAllocates", spec := "sampleAllocates", unfollowed := true, recurses := true, named := ["math/bits.overflowError"], apart := false }
def SampleAllocatesSaid : Prop := sampleAllocatesRow.holds Try.pinned (OpenSpec.ofChange sampleAllocatesSpec)

/-- ITS FALSE NEIGHBOUR: 'it returns false'. Refute it at one input. -/
def sampleAllocatesWrong : ChangeSpec := { name := "sampleAllocates", fn := fun _ => fun
  | [d] => { results := [.lit (.bool false)], args := [d] }
  | _ => none }
def SampleAllocatesWrongFalsely : Prop := sampleAllocatesRow.holds Try.pinned (OpenSpec.ofChange sampleAllocatesWrong)

/- THE SECOND FORM. 'bulk': how many values and letters a reading holds, each counted each time it is reached (what is shared counts as often as it is met; a slice's spare places count too). A statement '..UptoSaid' is the law's where the arguments, and the package variables that the reading takes, are together of bulk at most 1048576: NARROWER than '..Said'. Prove '..Said' where nothing that the law and all that it calls make is longer than what came in: it says more and counts as full. Else prove '..UptoSaid'. A law counts once. -/
mutual
def uptoBulk {H : Type} : DataW H → Nat
  | .lit (.string bytes) => bytes.length + 1
  | .lit _ => 1
  | .nil => 1
  | .ptr d => uptoBulk d + 1
  | .slice elems spare => uptoBulkAll elems + uptoBulkAll spare + 1
  | .agg parts => uptoBulkAll parts + 1
  | .iface _ d => uptoBulk d + 1
  | .map entries => uptoBulkEntries entries + 1
  | .held _ => 1
def uptoBulkAll {H : Type} : List (DataW H) → Nat
  | [] => 0
  | d :: r => uptoBulk d + uptoBulkAll r
def uptoBulkEntries {H : Type} : List (Lit × DataW H) → Nat
  | [] => 0
  | x :: r => uptoBulkEntry x + uptoBulkEntries r
def uptoBulkEntry {H : Type} : Lit × DataW H → Nat
  | (.string bytes, d) => bytes.length + uptoBulk d + 1
  | (_, d) => uptoBulk d + 1
 end
def uptoSmall : (H : Type) → List (DataW H) → Bool := fun _ ds => decide (uptoBulkAll ds ≤ 1048576)
def OpenSpec.upto (s : _root_.Go.ChangeSpec) : _root_.Go.OpenSpec := { _root_.Go.OpenSpec.ofChange s with cond := some uptoSmall }

/-- 'chaselaw2.SampleMosts', WHERE WHAT IT READS IS OF BULK AT MOST 1048576: true; the input reads as it did. -/
def sampleMostsUptoRow : OpenClaim := { program := "ytoakchnegkmepaa", sum := "89f6aa011ee951fe1b466f61dec45aee97b7e4f90ab38456c139694415c54878", func := "paperchase/chaselaw2.SampleMosts", spec := "sampleMosts", unfollowed := true, recurses := true, named := ["math/bits.overflowError"], apart := false, narrowed := true }
def SampleMostsUptoSaid : Prop := sampleMostsUptoRow.holds Try.pinned (OpenSpec.upto sampleMostsSpec)

/-- 'chaselaw2.SampleEnough', WHERE WHAT IT READS IS OF BULK AT MOST 1048576: true; the input reads as it did. -/
def sampleEnoughUptoRow : OpenClaim := { program := "ytoakchnegkmepaa", sum := "89f6aa011ee951fe1b466f61dec45aee97b7e4f90ab38456c139694415c54878", func := "paperchase/chaselaw2.SampleEnough", spec := "sampleEnough", unfollowed := true, recurses := true, named := ["math/bits.overflowError"], apart := false, narrowed := true }
def SampleEnoughUptoSaid : Prop := sampleEnoughUptoRow.holds Try.pinned (OpenSpec.upto sampleEnoughSpec)

/-- 'chaselaw2.SampleEstimates', WHERE WHAT IT READS IS OF BULK AT MOST 1048576: true; the input reads as it did. -/
def sampleEstimatesUptoRow : OpenClaim := { program := "ytoakchnegkmepaa", sum := "89f6aa011ee951fe1b466f61dec45aee97b7e4f90ab38456c139694415c54878", func := "paperchase/chaselaw2.SampleEstimates", spec := "sampleEstimates", unfollowed := true, recurses := true, named := ["math/bits.overflowError"], apart := false, narrowed := true }
def SampleEstimatesUptoSaid : Prop := sampleEstimatesUptoRow.holds Try.pinned (OpenSpec.upto sampleEstimatesSpec)

/-- 'chaselaw2.SampleCosts', WHERE WHAT IT READS IS OF BULK AT MOST 1048576: true; the input reads as it did. -/
def sampleCostsUptoRow : OpenClaim := { program := "ytoakchnegkmepaa", sum := "89f6aa011ee951fe1b466f61dec45aee97b7e4f90ab38456c139694415c54878", func := "paperchase/chaselaw2.SampleCosts", spec := "sampleCosts", unfollowed := true, recurses := true, named := ["math/bits.overflowError"], apart := false, narrowed := true }
def SampleCostsUptoSaid : Prop := sampleCostsUptoRow.holds Try.pinned (OpenSpec.upto sampleCostsSpec)

/-- 'chaselaw2.SampleRecalls', WHERE WHAT IT READS IS OF BULK AT MOST 1048576: true; the input reads as it did. -/
def sampleRecallsUptoRow : OpenClaim := { program := "ytoakchnegkmepaa", sum := "89f6aa011ee951fe1b466f61dec45aee97b7e4f90ab38456c139694415c54878", func := "paperchase/chaselaw2.SampleRecalls", spec := "sampleRecalls", unfollowed := true, recurses := true, named := ["math/bits.overflowError"], apart := false, narrowed := true }
def SampleRecallsUptoSaid : Prop := sampleRecallsUptoRow.holds Try.pinned (OpenSpec.upto sampleRecallsSpec)

/-- 'chaselaw2.SampleJudges', WHERE WHAT IT READS IS OF BULK AT MOST 1048576: true; the input reads as it did. -/
def sampleJudgesUptoRow : OpenClaim := { program := "ytoakchnegkmepaa", sum := "89f6aa011ee951fe1b466f61dec45aee97b7e4f90ab38456c139694415c54878", func := "paperchase/chaselaw2.SampleJudges", spec := "sampleJudges", unfollowed := true, recurses := true, named := ["math/bits.overflowError"], apart := false, narrowed := true }
def SampleJudgesUptoSaid : Prop := sampleJudgesUptoRow.holds Try.pinned (OpenSpec.upto sampleJudgesSpec)

/-- 'chaselaw2.SampleDepths', WHERE WHAT IT READS IS OF BULK AT MOST 1048576: true; the input reads as it did. -/
def sampleDepthsUptoRow : OpenClaim := { program := "ytoakchnegkmepaa", sum := "89f6aa011ee951fe1b466f61dec45aee97b7e4f90ab38456c139694415c54878", func := "paperchase/chaselaw2.SampleDepths", spec := "sampleDepths", unfollowed := true, recurses := true, named := ["math/bits.overflowError"], apart := false, narrowed := true }
def SampleDepthsUptoSaid : Prop := sampleDepthsUptoRow.holds Try.pinned (OpenSpec.upto sampleDepthsSpec)

/-- 'chaselaw2.SampleGains', WHERE WHAT IT READS IS OF BULK AT MOST 1048576: true; the input reads as it did. -/
def sampleGainsUptoRow : OpenClaim := { program := "ytoakchnegkmepaa", sum := "89f6aa011ee951fe1b466f61dec45aee97b7e4f90ab38456c139694415c54878", func := "paperchase/chaselaw2.SampleGains", spec := "sampleGains", unfollowed := true, recurses := true, named := ["math/bits.overflowError"], apart := false, narrowed := true }
def SampleGainsUptoSaid : Prop := sampleGainsUptoRow.holds Try.pinned (OpenSpec.upto sampleGainsSpec)

/-- 'chaselaw2.SampleStops', WHERE WHAT IT READS IS OF BULK AT MOST 1048576: true; the input reads as it did. -/
def sampleStopsUptoRow : OpenClaim := { program := "ytoakchnegkmepaa", sum := "89f6aa011ee951fe1b466f61dec45aee97b7e4f90ab38456c139694415c54878", func := "paperchase/chaselaw2.SampleStops", spec := "sampleStops", unfollowed := true, recurses := true, named := ["math/bits.overflowError"], apart := false, narrowed := true }
def SampleStopsUptoSaid : Prop := sampleStopsUptoRow.holds Try.pinned (OpenSpec.upto sampleStopsSpec)

/-- 'chaselaw2.SampleAllocates', WHERE WHAT IT READS IS OF BULK AT MOST 1048576: true; the input reads as it did. -/
def sampleAllocatesUptoRow : OpenClaim := { program := "ytoakchnegkmepaa", sum := "89f6aa011ee951fe1b466f61dec45aee97b7e4f90ab38456c139694415c54878", func := "paperchase/chaselaw2.SampleAllocates", spec := "sampleAllocates", unfollowed := true, recurses := true, named := ["math/bits.overflowError"], apart := false, narrowed := true }
def SampleAllocatesUptoSaid : Prop := sampleAllocatesUptoRow.holds Try.pinned (OpenSpec.upto sampleAllocatesSpec)

end Rows
end Go.Proofs.Ytoakchnegkmepaa
