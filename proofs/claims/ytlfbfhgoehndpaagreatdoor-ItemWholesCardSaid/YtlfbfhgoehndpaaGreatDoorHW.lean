/- The library of this work, H texts, part W: the keys of a map, sorted: what the shelf's contract says, as values. -/
import Derived.Test.YtlfbfhgoehndpaaGreatDoorHV
import Derived.Shelf.SlIter.Nil
import Derived.Shelf.SortM.Plain
import Derived.Shelf.SortM.SortNone
set_option linter.unusedSimpArgs false
set_option linter.unusedVariables false
set_option maxRecDepth 100000
namespace Go.Pv
open Go Go.Proofs Go.Maps

/-- A contract of the shelf that leaves what was there as it was; what is asked of the arguments: R. -/
theorem spec_belowQ {P : Program} {f : FuncId} {args : List MV} {R : Own → World → List Value → Prop} {rv : MV}
    (hent : ∀ (av : Array Value) (w : World), (callFunc f av).run P w = .ok (.enter f av) w)
    (hv : ∀ (γ : List Value) (ω : Own) (w : World) (vs : List Value), vs.length = args.length → (∀ (i : Nat) (c : MV) (u : Value), args[i]? = some c → vs[i]? = some u → Rep γ ω w c u) → R ω w vs)
    (hc : ∀ (ω : Own) (w : World) (vs : List Value), (∀ b, w.heap.size ≤ b → ω b = none) → GOk ω w → R ω w vs → Calls P f vs.toArray w fun e w' => ∃ v, e = .returned v ∧ Go.RowKit.Below w.heap.size w w' ∧ Rep [] ω w' rv v) : SpecB P f args [] [rv] [] := by
  refine ⟨hent, fun γ ω w vs hl hrep hlt hgl hlen hlab hobj => ?_⟩
  have hγ : γ = [] := List.eq_nil_of_length_eq_zero hlen
  subst hγ
  refine (hc ω w vs hlt hgl (hv [] ω w vs hl hrep)).mono fun e w' ⟨v, he, hb, hr⟩ => ?_
  exact ⟨v, [], ω, he, ⟨hb.os, hb.tape, hb.output, hb.size, fun _ _ h => h, fun b h h0 => ⟨hb.block b h, h0⟩, fun b o h h0 _ => ⟨hb.block b h, h0⟩⟩, fun b h => hlt b (Nat.le_trans hb.size h), rfl, hlab, fun k o hk => by simp at hk, hr, by simp⟩
theorem below_keeps {ω : Own} {w w' : World} (hb : Go.RowKit.Below w.heap.size w w') : Keeps [] ω w [] ω w' := ⟨fun _ _ h => h, hb.size, fun b h h0 => ⟨hb.block b h, h0⟩⟩

/-- The keys of a map, as bytes. -/
def mkeysB (m : List (MKey × MV)) : List (List UInt8) := m.map fun x => match x.1 with
  | .str s => s.data.toList
  | _ => []
def strK (m : List (MKey × MV)) : Bool := m.all fun x => match x.1 with
  | .str s => Nat.ble s.size 4611686018427387903
  | _ => false
def sortB (l : List (List UInt8)) : List (List UInt8) := l.mergeSort fun x y => decide (x ≤ y)
def rowB (l : List (List UInt8)) : List (List MV) := l.map fun b => [.str ⟨b.toArray⟩]

/-- A row that a function has made, shared. -/
theorem rep_ownB {ω : Own} {w' : World} {n0 : Nat} {e : TypeId} {v : Value} {l : List (List UInt8)} (h : w'.ownsRow n0 e 1 v l.length (l.map encStr)) (hω : ∀ b, n0 ≤ b → ω b = none) : Rep [] ω w' (.list (rowB l)) v := by
  rcases h.2 with ⟨rfl, h0⟩ | ⟨g, cap, cur, rfl, hg, hh, hle, hmx, hcs, htk⟩
  · have : l = [] := List.eq_nil_of_length_eq_zero h0
    subst this
    exact .list0 none 0
  · have hcell : ∀ (j : Nat) (x : List UInt8), l[j]? = some x → w'.cell? ⟨g, j, none⟩ = some (.string ⟨x.toArray⟩) := fun j x hj => by
      have h1 : ((l.map encStr)[j]?) = some (encStr x) := by simp [hj]
      have hjl : j < l.length := (List.getElem?_eq_some_iff.1 hj).1
      have h2 : cur[j]? = some (encStr x) := by
        have := congrArg (fun q => q[j]?) htk
        simp only [List.getElem?_take] at this
        rw [if_pos (by simpa using hjl), h1] at this
        simpa using this
      simp only [World.cell?, hh]
      simpa [encStr] using h2
    have := Rep.list (γ := []) (ω := ω) (w := w') (rowB l) 1 g 0 cap (fun j _ => .string ⟨(l.getD j []).toArray⟩) (by simp [rowB]; exact hle) (hω g hg) (Array.getElem?_eq_some_iff.1 hh).1
      (fun y hy => by obtain ⟨s, _, rfl⟩ := List.mem_map.1 hy; rfl) (fun y hy => by obtain ⟨s, _, rfl⟩ := List.mem_map.1 hy; rfl)
      (fun j y hj i c hi => by
        unfold rowB at hj
        rw [List.getElem?_map] at hj
        cases hl : l[j]? with
        | none => rw [hl] at hj; simp at hj
        | some s =>
          rw [hl] at hj; simp at hj; subst hj
          have hi0 : i = 0 := by
            have := (List.getElem?_eq_some_iff.1 hi).1
            simpa using this
          subst hi0
          refine ⟨?_, rfl⟩
          have := hcell j s hl
          simpa [List.getD, hl] using this)
      (fun j y hj i c hi => by
        unfold rowB at hj
        rw [List.getElem?_map] at hj
        cases hl : l[j]? with
        | none => rw [hl] at hj; simp at hj
        | some s =>
          rw [hl] at hj; simp at hj; subst hj
          have hi0 : i = 0 := by
            have := (List.getElem?_eq_some_iff.1 hi).1
            simpa using this
          subst hi0
          simp at hi; subst hi
          simp only [List.getD, hl, Option.getD_some]
          exact .str _)
    rw [show (rowB l).length = l.length by simp [rowB]] at this
    exact this

/-- A map of ours is a map that reads as its keys. -/
theorem map_owns {P : Program} {k : TypeId} (hk : P.underlying k = some .string) {γ : List Value} {ω : Own} {w : World} {m : List (MKey × MV)} {u : Value} (h : Rep γ ω w (.map m) u) (hs : strK m = true) (hnk : (mkeysB m).Nodup) (hl : m.length ≤ maxLen) :
    (m = [] ∧ u = .map none) ∨ ∃ (b : Nat) (D : DataW Unit) (R : Value → Option (DataW Unit × List MemPlace)), u = .map (some b) ∧ b < w.heap.size ∧ w.ownsMap P k R b m.length D ∧ (strKeys D).Perm (mkeysB m) ∧ Maps.size D = m.length := by
  cases h with
  | map0 => exact .inl ⟨rfl, rfl⟩
  | map _ blk es clock hω hb hlen hn hkk hv hlt hbn hnd hh =>
    refine .inr ⟨blk, .map ((es.map (Go.WideElems.rg P k fun _ => some (.lit (.bool true), []))).foldr DataW.insert []), fun _ => some (.lit (.bool true), []), rfl, hlt, ?_⟩
    have hkey : ∀ (i : Nat) (x : MKey × MV) (e : MapEntry), m[i]? = some x → es[i]? = some e → ∃ s : ByteArray, x.1 = .str s ∧ e.key = .string s ∧ s.size ≤ maxLen := fun i x e hx he => by
      have h1 := List.all_eq_true.1 hs x (List.mem_of_getElem? hx)
      have h2 := hkk i x e hx he
      cases hx1 : x.1 with
      | str s => rw [hx1] at h1 h2; exact ⟨s, rfl, h2, by have := Nat.le_of_ble_eq_true h1; unfold maxLen; omega⟩
      | int _ _ => rw [hx1] at h1; simp at h1
      | bool _ => rw [hx1] at h1; simp at h1
      | strs _ => rw [hx1] at h1; simp at h1
    have hrd : ∀ (i : Nat) (x : MKey × MV) (e : MapEntry), m[i]? = some x → es[i]? = some e → ∃ s : ByteArray, x.1 = .str s ∧ Go.WideElems.rd P k (fun _ => some ((DataW.lit (.bool true) : DataW Unit), [])) e = some (.string s.data.toList, .lit (.bool true)) := fun i x e hx he => by
      obtain ⟨s, h1, h2, h3⟩ := hkey i x e hx he
      refine ⟨s, h1, ?_⟩
      unfold Go.WideElems.rd
      rw [h2, WideMaps.keyOf_string_mk hk h3]; rfl
    have hrg : es.map (Go.WideElems.rg P k fun _ => some ((DataW.lit (.bool true) : DataW Unit), [])) = m.map fun x => (match x.1 with | .str s => Lit.string s.data.toList | _ => .bool false, DataW.lit (.bool true)) := by
      apply List.ext_getElem?
      intro i
      rw [List.getElem?_map, List.getElem?_map]
      cases hx : m[i]? with
      | none =>
        have : es[i]? = none := by
          rw [List.getElem?_eq_none_iff] at hx ⊢; omega
        rw [this]; rfl
      | some x =>
        have hil : i < es.length := by have := (List.getElem?_eq_some_iff.1 hx).1; omega
        have he : es[i]? = some es[i] := List.getElem?_eq_getElem hil
        obtain ⟨s, h1, h2⟩ := hrd i x es[i] hx he
        rw [he]
        simp only [Option.map_some, Go.WideElems.rg, h2, Option.getD_some, h1]
    refine ⟨⟨es.toArray, clock, hb, ⟨by simpa [hlen] using hl, ?_, fun e he => ?_⟩, by simp [hlen], by simp⟩, ?_, ?_⟩
    · refine ⟨fun e he => hbn e (by simpa using he), by simpa using hnd, ?_⟩
      have hkl : es.map (·.key) = (mkeysB m).map encStr := by
        apply List.ext_getElem?
        intro i
        unfold mkeysB
        rw [List.getElem?_map, List.getElem?_map, List.getElem?_map]
        cases hx : m[i]? with
        | none =>
          have : es[i]? = none := by
            rw [List.getElem?_eq_none_iff] at hx ⊢; omega
          rw [this]; rfl
        | some x =>
          have hil : i < es.length := by have := (List.getElem?_eq_some_iff.1 hx).1; omega
          have he : es[i]? = some es[i] := List.getElem?_eq_getElem hil
          obtain ⟨s, h1, h2, h3⟩ := hkey i x es[i] hx he
          rw [he]
          simp only [Option.map_some, h1, h2, encStr]
      show (es.map (·.key)).Nodup
      rw [hkl, List.Nodup, List.pairwise_map]
      exact hnk.imp fun h e => h (encStr_inj e)
    · obtain ⟨i, hi⟩ := List.mem_iff_getElem?.1 he
      simp at hi
      have hil : i < m.length := by have := (List.getElem?_eq_some_iff.1 hi).1; omega
      obtain ⟨s, _, h2⟩ := hrd i m[i] e (List.getElem?_eq_getElem hil) hi
      exact ⟨_, h2⟩
    · show (((es.map _).foldr DataW.insert []).map fun p => strOf p.1).Perm _
      refine ((WideShapes.sorted_perm _).map _).trans ?_
      rw [hrg, List.map_map]
      refine List.Perm.of_eq ?_
      unfold mkeysB
      apply List.map_congr_left
      intro x hx
      have h1 := List.all_eq_true.1 hs x hx
      simp only [Function.comp_apply]
      cases hx1 : x.1 with
      | str s => rfl
      | int _ _ => rw [hx1] at h1; simp at h1
      | bool _ => rw [hx1] at h1; simp at h1
      | strs _ => rw [hx1] at h1; simp at h1
    · show ((es.map _).foldr DataW.insert []).length = m.length
      rw [(WideShapes.sorted_perm _).length_eq, List.length_map, hlen]
end Go.Pv
