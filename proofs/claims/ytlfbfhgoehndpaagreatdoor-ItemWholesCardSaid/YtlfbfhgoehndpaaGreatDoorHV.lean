/- The library of this work, H texts, part V: contracts that come from outside. -/
import Derived.Test.YtlfbfhgoehndpaaGreatDoorHU
import Derived.Test.YtlfbfhgoehndpaaGreatDoorHS
set_option linter.unusedSimpArgs false
set_option linter.unusedVariables false
namespace Go.Pv
theorem enter_of {P : Program} {f : FuncId} {fn : Func} {c : Code} (hf : P.funcs[f]? = some fn) (hb : fn.body = some c) (hname : (fn.name == "runtime.NumGoroutine") = false) (av : Array Value) (w : World) : (callFunc f av).run P w = .ok (.enter f av) w := by
  have h1 : fn.name ≠ "runtime.NumGoroutine" := by simpa using hname
  simp [callFunc, hf, h1, hb, mark]
/-- A contract of the shelf that leaves what was there as it was. -/
theorem spec_below {P : Program} {f : FuncId} {args : List MV} {us : List Value} {rv : MV} {V : World → Value → Prop}
    (hent : ∀ (av : Array Value) (w : World), (callFunc f av).run P w = .ok (.enter f av) w)
    (hv : ∀ (γ : List Value) (ω : Own) (w : World) (vs : List Value), vs.length = args.length → (∀ (i : Nat) (c : MV) (u : Value), args[i]? = some c → vs[i]? = some u → Rep γ ω w c u) → vs = us)
    (hc : ∀ (ω : Own) (w : World), (∀ b, w.heap.size ≤ b → ω b = none) → GOk ω w → Calls P f us.toArray w fun e w' => ∃ v, e = .returned v ∧ Go.RowKit.Below w.heap.size w w' ∧ Rep [] ω w' rv v) : SpecB P f args [] [rv] [] := by
  refine ⟨hent, fun γ ω w vs hl hrep hlt hgl hlen hlab hobj => ?_⟩
  have hγ : γ = [] := List.eq_nil_of_length_eq_zero hlen
  subst hγ
  rw [hv [] ω w vs hl hrep]
  refine (hc ω w hlt hgl).mono fun e w' ⟨v, he, hb, hr⟩ => ?_
  exact ⟨v, [], ω, he, ⟨hb.os, hb.tape, hb.output, hb.size, fun _ _ h => h, fun b h h0 => ⟨hb.block b h, h0⟩, fun b o h h0 _ => ⟨hb.block b h, h0⟩⟩, fun b h => hlt b (Nat.le_trans hb.size h), rfl, hlab, fun k o hk => by simp at hk, hr, by simp⟩
theorem two_strs {a b : ByteArray} {γ : List Value} {ω : Own} {w : World} {vs : List Value} (hl : vs.length = [MV.str a, MV.str b].length) (h : ∀ (i : Nat) (c : MV) (u : Value), [MV.str a, MV.str b][i]? = some c → vs[i]? = some u → Rep γ ω w c u) : vs = [.string a, .string b] := by
  obtain ⟨v0, v1, rfl⟩ : ∃ v0 v1, vs = [v0, v1] := by
    match vs, hl with
    | [a, b], _ => exact ⟨a, b, rfl⟩
  have r0 := h 0 (.str a) v0 rfl rfl
  have r1 := h 1 (.str b) v1 rfl rfl
  cases r0
  cases r1
  rfl
theorem one_str {a : ByteArray} {γ : List Value} {ω : Own} {w : World} {vs : List Value} (hl : vs.length = [MV.str a].length) (h : ∀ (i : Nat) (c : MV) (u : Value), [MV.str a][i]? = some c → vs[i]? = some u → Rep γ ω w c u) : vs = [.string a] := by
  obtain ⟨v0, rfl⟩ : ∃ v0, vs = [v0] := by
    match vs, hl with
    | [a], _ => exact ⟨a, rfl⟩
  have r0 := h 0 (.str a) v0 rfl rfl
  cases r0
  rfl
theorem below_alloc (w : World) (o : Obj) : Go.RowKit.Below w.heap.size w (w.alloc o) :=
  ⟨rfl, rfl, rfl, by show _ ≤ (w.heap.push o).size; simp, fun b hb => by show (w.heap.push o)[b]? = _; simp [Array.getElem?_push, Nat.ne_of_lt hb]⟩
/-- A new row of strings, shared. -/
theorem rep_strs (l : List ByteArray) (ω : Own) (w : World) (hlt : ∀ b, w.heap.size ≤ b → ω b = none) (e : TypeId) :
    Rep [] ω (w.alloc (.cells (l.map Value.string).toArray e)) (.list (l.map fun s => [.str s])) (.slice (some ⟨w.heap.size, 0, none⟩) l.length l.length) := by
  have := Rep.list (γ := []) (ω := ω) (w := w.alloc (.cells (l.map Value.string).toArray e)) (l.map fun s => [.str s]) 1 w.heap.size 0 l.length (fun j _ => .string (l.getD j ByteArray.empty)) (by simp) (hlt _ (Nat.le_refl _)) (by show _ < (w.heap.push _).size; simp)
    (fun y hy => by obtain ⟨s, _, rfl⟩ := List.mem_map.1 hy; rfl) (fun y hy => by obtain ⟨s, _, rfl⟩ := List.mem_map.1 hy; rfl)
    (fun j y hj i c hi => by
      rw [List.getElem?_map] at hj
      cases hl : l[j]? with
      | none => rw [hl] at hj; simp at hj
      | some s =>
        rw [hl] at hj; simp at hj; subst hj
        have hi0 : i = 0 := by
          have := (List.getElem?_eq_some_iff.1 hi).1
          simpa using this
        subst hi0
        refine ⟨?_, rfl⟩
        have hh : (w.alloc (.cells (l.map Value.string).toArray e)).heap[w.heap.size]? = some (.cells (l.map Value.string).toArray e (0, 0)) := by
          show (w.heap.push _)[w.heap.size]? = _
          simp
        simp only [World.cell?]
        rw [hh]
        simp [hl, List.getD])
    (fun j y hj i c hi => by
      rw [List.getElem?_map] at hj
      cases hl : l[j]? with
      | none => rw [hl] at hj; simp at hj
      | some s =>
        rw [hl] at hj; simp at hj; subst hj
        have hi0 : i = 0 := by
          have := (List.getElem?_eq_some_iff.1 hi).1
          simpa using this
        subst hi0
        simp at hi; subst hi
        simp only [List.getD, hl, Option.getD_some]
        exact .str s)
  rw [List.length_map] at this
  exact this
end Go.Pv
