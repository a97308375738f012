/- From a contract to a call of the law. -/
import Derived.Test.YtgffjfhdcdpolaaGreatDoorHU
set_option linter.unusedVariables false
namespace Go.Pv

/-- A slice of ints, as the row reads it. -/
def IsRow (k : IntKind) (w : World) (a : Option Addr) (len cap : Nat) (zs : List Int) : Prop :=
  (a = none ∧ len = 0 ∧ cap = 0 ∧ zs = []) ∨
  ∃ x, a = some x ∧ len ≤ cap ∧ cap ≤ maxLen ∧ zs.length = cap ∧ (∀ i, i < zs.length → w.cell? (x.add i) = some (.int k (zs.getD i 0))) ∧ ∀ n ∈ zs, (Lit.int k n).wf = true

theorem law_calls {P : Program} {f : FuncId} (m : List Int → MV) (hm : ∀ l, m l = .list (l.map fun x => [.int .i64 x])) (h : ∀ ls : List Int, ls.length ≤ maxLen → SpecB P f [m ls] [] [.bool true] []) (w : World) (a : Option Addr) (len cap : Nat) (zs : List Int) (hw : IsRow .i64 w a len cap zs) (hg : GP w) :
    Calls P f #[.slice a len cap] w fun e w' => e = .returned (.bool true) ∧ Go.RowKit.Below w.heap.size w w' := by
  have hlen : (zs.take len).length = len ∧ len ≤ maxLen := by
    rcases hw with ⟨rfl, rfl, rfl, rfl⟩ | ⟨x, rfl, h1, h2, h3, _, _⟩
    · exact ⟨rfl, Nat.zero_le _⟩
    · exact ⟨by rw [List.length_take]; omega, by omega⟩
  have hrep : Rep [] (fun _ => none) w (m (zs.take len)) (.slice a len cap) := by
    rw [hm]
    rcases hw with ⟨rfl, rfl, rfl, rfl⟩ | ⟨x, rfl, h1, h2, h3, h4, _⟩
    · exact Rep.list0 none 0
    · by_cases h0 : len = 0
      · subst h0; exact Rep.list0 _ _
      · have c0 := h4 0 (by omega)
        obtain ⟨b, o, sp⟩ := x
        have hsp : sp = none := by
          simp only [Addr.add, if_true] at c0
          unfold World.cell? at c0
          split at c0
          · split at c0
            · exact absurd c0 (by simp)
            · rename_i hs; cases sp with
              | none => rfl
              | some _ => simp at hs
          · exact absurd c0 (by simp)
        subst hsp
        have hl : ((zs.take len).map fun x => [MV.int .i64 x]).length = len := by rw [List.length_map]; exact hlen.1
        have key : Rep [] (fun _ => none) w (.list ((zs.take len).map fun x => [MV.int .i64 x])) (.slice (some ⟨b, o, none⟩) ((zs.take len).map fun x => [MV.int .i64 x]).length cap) := by
          refine .list _ 1 b o cap (fun j _ => .int .i64 (zs.getD j 0)) (by omega) rfl ?_ ?_ (fun e he => by obtain ⟨y, _, rfl⟩ := List.mem_map.1 he; rfl) ?_ ?_
          · have := h4 0 (by omega)
            rw [Addr.add_lit] at this
            exact World.block_lt_of_cell? w _ this
          · intro e he
            obtain ⟨y, _, rfl⟩ := List.mem_map.1 he
            rfl
          · intro j e hj i c hi
            rw [List.getElem?_map] at hj
            cases hq : (zs.take len)[j]? with
            | none => rw [hq] at hj; simp at hj
            | some y =>
              rw [hq] at hj
              simp only [Option.map_some, Option.some.injEq] at hj
              subst hj
              have hjl := (List.getElem?_eq_some_iff.1 hq).1
              rw [hlen.1] at hjl
              cases i with
              | succ i => simp at hi
              | zero =>
                refine ⟨?_, rfl⟩
                have := h4 j (by omega)
                rw [Addr.add_lit] at this
                rw [← this]
                simp
          · intro j e hj i c hi
            rw [List.getElem?_map] at hj
            cases hq : (zs.take len)[j]? with
            | none => rw [hq] at hj; simp at hj
            | some y =>
              rw [hq] at hj
              simp only [Option.map_some, Option.some.injEq] at hj
              subst hj
              have hjl := (List.getElem?_eq_some_iff.1 hq).1
              rw [hlen.1] at hjl
              cases i with
              | succ i => simp at hi
              | zero =>
                simp only [List.getElem?_cons_zero, Option.some.injEq] at hi
                subst hi
                have : zs.getD j 0 = y := by
                  rw [List.getElem?_take, if_pos hjl] at hq
                  simp [List.getD, hq]
                rw [this]
                exact .int _ _
        rw [hl] at key
        exact key
  have hc := (h (zs.take len) (by rw [hlen.1]; exact hlen.2)).2 [] (fun _ => none) w [.slice a len cap] rfl (fun i c v hi hv => by
    cases i with
    | zero =>
      simp only [List.getElem?_cons_zero, Option.some.injEq] at hi hv
      subst hi; subst hv; exact hrep
    | succ i => simp at hi) (fun _ _ => rfl) ⟨w, hg, fun _ _ => ⟨rfl, rfl⟩⟩ rfl (fun b k p hb => by simp at hb) (fun k o hk => by simp at hk)
  refine Calls.mono hc ?_
  rintro e w' ⟨v, γ', ω', rfl, hch, _, _, _, _, hres, _⟩
  have hv : v = .bool true := by
    have : Rep γ' ω' w' (.bool true) v := hres
    cases this; rfl
  subst hv
  exact ⟨rfl, ⟨hch.os, hch.tape, hch.output, hch.size, fun k hk => (hch.none k hk rfl).1⟩⟩

end Go.Pv
