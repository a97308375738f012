/- Contracts of Go's library, out of the kit's shelf: strings.Trim. -/
import Derived.Test.YtoakchnegkmepaaDoorSh
import Derived.Test.YtoakchnegkmepaaDoorTi
import Derived.Test.YtoakchnegkmepaaDoorE6
import Derived.Test.YtoakchnegkmepaaDoorR1
import Derived.Shelf.Strings.SlTrimAscii
set_option linter.unusedSimpArgs false
set_option linter.unusedVariables false
set_option maxRecDepth 100000
namespace Go.Pv
open Go Go.Proofs

theorem enter_of {P : Program} {f : FuncId} {fn : Func} {c : Code} (hf : P.funcs[f]? = some fn) (hb : fn.body = some c) (hname : (fn.name == "runtime.NumGoroutine") = false) (av : Array Value) (w : World) : (callFunc f av).run P w = .ok (.enter f av) w := by
  have h1 : fn.name ≠ "runtime.NumGoroutine" := by simpa using hname
  simp [callFunc, hf, h1, hb, mark]
/-- A contract of the shelf that leaves what was there as it was. -/
theorem spec_below {P : Program} {f : FuncId} {args : List MV} {us : List Value} {rv : MV} {v : Value}
    (hent : ∀ (av : Array Value) (w : World), (callFunc f av).run P w = .ok (.enter f av) w)
    (hv : ∀ (γ : List Nat) (ω : Own) (w : World) (vs : List Value), vs.length = args.length → (∀ (i : Nat) (c : MV) (u : Value), args[i]? = some c → vs[i]? = some u → Rep γ ω w c u) → vs = us)
    (hr : ∀ (γ : List Nat) (ω : Own) (w : World), Rep γ ω w rv v)
    (hc : ∀ w, Calls P f us.toArray w fun e w' => e = .returned v ∧ Go.RowKit.Below w.heap.size w w') : Spec P f args [(none, rv)] := by
  refine ⟨hent, fun γ ω w vs hl hrep hlt hres => ?_⟩
  rw [hv γ ω w vs hl hrep]
  refine (hc w).mono fun e w' ⟨he, hb⟩ => ?_
  refine ⟨v, ω, he, ⟨hb.os, hb.tape, hb.output, hb.size, fun _ _ h => h, fun b h h0 => ⟨hb.block b h, h0⟩, fun b o h h0 _ => ⟨hb.block b h, h0⟩⟩, fun b h => hlt b (Nat.le_trans hb.size h), fun _ _ => rfl, fun b h => .inl (hlt b h), ?_⟩
  exact hr γ ω w'
theorem two_strs {a b : ByteArray} {γ : List Nat} {ω : Own} {w : World} {vs : List Value} (hl : vs.length = [MV.str a, MV.str b].length) (h : ∀ (i : Nat) (c : MV) (u : Value), [MV.str a, MV.str b][i]? = some c → vs[i]? = some u → Rep γ ω w c u) : vs = [.string a, .string b] := by
  obtain ⟨v0, v1, rfl⟩ : ∃ v0 v1, vs = [v0, v1] := by
    match vs, hl with
    | [a, b], _ => exact ⟨a, b, rfl⟩
  have r0 := h 0 (.str a) v0 rfl rfl
  have r1 := h 1 (.str b) v1 rfl rfl
  cases r0
  cases r1
  rfl

def trimH : List MV → Out
  | [.str s, .str c] => if s.size ≤ 9223372036854775807 ∧ c.size < 4294967281 ∧ c.data.toList.all (fun b => decide (b.toNat < 128)) = true then some ([(none, .str ⟨(Go.Lib.trimS s.data.toList c.data.toList).toArray⟩)], []) else none
  | _ => none
theorem trim_ok (args : List MV) (r : Res) (B : Bxs) (h : trimH args = some (r, B)) (hn : npL args = true) : Spec Tryd.prog 28 args r := by
  unfold trimH at h
  split at h
  · rename_i s c
    split at h
    · rename_i hc
      cases h
      refine spec_below (enter_of Tryd.func28 rfl rfl) (fun γ ω w vs hl hv => two_strs hl hv) (fun γ ω w => Rep.str _) (fun w => ?_)
      exact Any.strings_Trim_laid sh160 (by kernel_rfl) s c w hc.1 hc.2.1 (ascii_of_all hc.2.2)
    · cases h
  · cases h

end Go.Pv
