/- A library of this session: contracts are weakened. -/
import Derived.Test.YtoakchnegkmepaaM31
set_option linter.unusedVariables false
set_option linter.unusedSimpArgs false
namespace Go.Pv

def shareR (r : Res) : Res := r.map fun x => (none, x.2)

theorem ResI.share {γ : List Nat} {ω ω' : Own} {w : World} (hω : ∀ b, ω b = some .res → ω' b = none) (hn : ∀ b, ω b = none → ω' b = none) {x : Option Nat × MV} {v : Value} (h : ResI γ ω w x v) : ResI γ ω' w (none, x.2) v := by
  obtain ⟨x1, x2⟩ := x
  cases x1 with
  | none => exact h.relabel hn
  | some sz => exact own_to_rep' hω hn h

theorem ResRep.share {γ : List Nat} {ω ω' : Own} {w : World} (hω : ∀ b, ω b = some .res → ω' b = none) (hn : ∀ b, ω b = none → ω' b = none) {r : Res} {v : Value} (h : ResRep γ ω w r v) : ResRep γ ω' w (shareR r) v := by
  match r, h with
  | [x], h => exact ResI.share hω hn h
  | [], h =>
    obtain ⟨vs, h1, h2, h3⟩ := h
    exact ⟨vs, h1, h2, fun i x u hx => by simp [shareR] at hx⟩
  | x :: y :: q, h =>
    obtain ⟨vs, h1, h2, h3⟩ := h
    refine ⟨vs, h1, by simpa [shareR] using h2, fun i z u hz hu => ?_⟩
    have : (shareR (x :: y :: q))[i]? = ((x :: y :: q)[i]?).map fun x => (none, x.2) := by simp only [shareR, List.getElem?_map]
    have hz' : ((x :: y :: q)[i]?).map (fun x => ((none : Option Nat), x.2)) = some z := this.symm.trans hz
    cases hq : (x :: y :: q)[i]? with
    | none => rw [hq] at hz'; simp at hz'
    | some t =>
      rw [hq] at hz'
      simp only [Option.map_some, Option.some.injEq] at hz'
      subst hz'
      exact ResI.share hω hn (h3 i t u hq hu)

/-- What a function hands back may be shared. -/
theorem Spec.share {P : Program} {f : FuncId} {args : List MV} {r : Res} (h : Spec P f args r) : Spec P f args (shareR r) := by
  refine ⟨h.1, fun γ ω w vs hl hv hlt hres => (h.2 γ ω w vs hl hv hlt hres).mono ?_⟩
  rintro e w' ⟨v, ω', he, hc, h1, h2, h3, h4⟩
  let ω2 : Own := fun b => if ω' b = some .res then none else ω' b
  have hn : ∀ b, ω' b = none → ω2 b = none := fun b hb => by simp [ω2, hb]
  have hr : ∀ b, ω' b = some .res → ω2 b = none := fun b hb => by simp [ω2, hb]
  have hk : ∀ b, ω' b ≠ some .res → ω2 b = ω' b := fun b hb => by simp [ω2, hb]
  refine ⟨v, ω2, he, ⟨hc.os, hc.tape, hc.output, hc.size, hc.pre, fun b hb h0 => ?_, fun b o hb h0 ho => ?_⟩, fun b hb => hn b (h1 b hb), fun b hb => ?_, fun b hb => ?_, h4.share hr hn⟩
  · obtain ⟨e1, e2⟩ := hc.none b hb h0; exact ⟨e1, hn b e2⟩
  · obtain ⟨e1, e2⟩ := hc.keep b o hb h0 ho
    refine ⟨e1, ?_⟩
    rw [hk b (by rw [h2 b hb]; exact hres b)]; exact e2
  · rw [hk b (by rw [h2 b hb]; exact hres b)]; exact h2 b hb
  · rcases h3 b hb with e | e | e
    · exact .inl (hn b e)
    · right; left; rw [hk b (by rw [e]; simp)]; exact e
    · exact .inl (hr b e)

theorem SpecB.share {P : Program} {f : FuncId} {args : List MV} {r : Res} {B B' : List (Option (List Ct))} (h : SpecB P f args B r B') : SpecB P f args B (shareR r) B' := by
  refine ⟨h.1, fun γ ω w vs hl hv hlt hlab hB => (h.2 γ ω w vs hl hv hlt hlab hB).mono ?_⟩
  rintro e w' ⟨v, ω', he, hc, h1, h2, h3, h4⟩
  let ω2 : Own := fun b => if ω' b = some .res then none else ω' b
  have hn : ∀ b, ω' b = none → ω2 b = none := fun b hb => by simp [ω2, hb]
  have hr : ∀ b, ω' b = some .res → ω2 b = none := fun b hb => by simp [ω2, hb]
  have hk : ∀ b, ω' b ≠ some .res → ω2 b = ω' b := fun b hb => by simp [ω2, hb]
  refine ⟨v, ω2, he, ⟨hc.os, hc.tape, hc.output, hc.size, hc.pre, fun b hb h0 => ?_, fun b o hb h0 ho => ?_⟩, fun b hb => hn b (h1 b hb), fun b o hb => ?_, h3.relab hn (fun b o ho hb => ?_), h4.share hr hn⟩
  · obtain ⟨e1, e2⟩ := hc.none b hb h0; exact ⟨e1, hn b e2⟩
  · obtain ⟨e1, e2⟩ := hc.keep b o hb h0 ho
    refine ⟨e1, ?_⟩
    have : o ≠ .res := by
      intro e; subst e
      rcases hlab b _ h0 with h | h
      · simp [isBoxO] at h
      · simp at h
    rw [hk b (by rw [e2]; simpa using this)]; exact e2
  · by_cases hb2 : ω' b = some .res
    · rw [hr b hb2] at hb; simp at hb
    · rw [hk b hb2] at hb; exact h2 b o hb
  · rw [hk b (by rw [hb]; intro e; injection e with e; subst e; simp [isBoxO] at ho)]; exact hb

/-- The road to a contract of a function that no pointer is handed to. -/
theorem spec_of0 {P : Program} {f : FuncId} {fn : Func} {c : Code} {args : List MV} {r : Res} {nt : Nat} {rs : List ResultVar} (hf : P.funcs[f]? = some fn) (hb : fn.body = some c) (hnt : fn.ntmps = nt) (hrs : fn.results.toList = rs) (hname : (fn.name == "runtime.NumGoroutine") = false) (hna : args.length ≤ nt) (hnp : ∀ x ∈ r, np x.2 = true) (hna2 : ∀ x ∈ args, np x = true)
    (h : PW P nt c ⟨argsV 0 args, []⟩ (postP P rs r)) : Spec P f args r := by
  subst hnt; subst hrs
  refine ⟨fun as w => ?_, fun γ ω w vs hl hv hlt hres => ?_⟩
  · have h1 : fn.name ≠ "runtime.NumGoroutine" := by simpa using hname
    simp [callFunc, hf, h1, hb, mark]
  let ωc : Own := fun b => match ω b with | none => none | some _ => some .outer
  have hsh : ∀ b, ω b = none → ωc b = none := fun b hb => by simp [ωc, hb]
  have hR : Rel [] ωc w fn.ntmps ⟨argsV 0 args, []⟩ { tmps := vs.toArray ++ Array.replicate (fn.ntmps - vs.toArray.size) undef, defers := [] } := by
    refine ⟨by simp; omega, rfl, fun b hb => by simp [ωc, hlt b hb], ⟨by simp, fun k cs hk => by simp at hk⟩, fun s => ?_⟩
    · simp only
      rw [lk_argsV]
      simp only [Nat.zero_le, if_true, Nat.sub_zero]
      cases hm : args[s]? with
      | none => trivial
      | some m =>
        have hs : s < vs.length := by rw [hl]; exact (List.getElem?_eq_some_iff.1 hm).1
        have e : (vs.toArray ++ Array.replicate (fn.ntmps - vs.toArray.size) undef).getD s undef = vs[s] := by
          rw [Array.getD_eq_getD_getElem?, Array.getElem?_append_left (by simpa using hs)]
          simp [hs]
        rw [e]
        exact ((hv s m vs[s] hm (List.getElem?_eq_getElem hs)).relabel hsh).np (hna2 m (List.mem_of_getElem? hm))
  refine calls_of_wp hf hb (h [] ωc w _ _ hR (fun e γ' ω' w' st' a' h1 h2 h3 => ?_))
  have hpost : resP P st' fn.results.toList r := by cases e <;> first | exact h3 | exact h3.elim
  obtain ⟨us, g1, g2, g3⟩ := resP_ok h2 hpost
  obtain ⟨v, hrun, hv1, hv2⟩ := results_run g2
  have heap : ∀ b, b < w.heap.size → w'.heap[b]? = w.heap[b]? := by
    intro b hb'
    cases hω : ωc b with
    | none => exact (h1.none b hb' hω).1
    | some o =>
      have ho : o = .outer := by
        simp only [ωc] at hω
        split at hω
        · exact absurd hω (by simp)
        · injection hω with hω; exact hω.symm
      subst ho
      exact (h1.keep b _ hb' hω (fun h => h rfl)).1
  have hold' : ∀ b, b < w.heap.size → ωc b = none → ω' b = none := fun b hb' h0 => (h1.none b hb' h0).2
  have hold'' : ∀ b, b < w.heap.size → ∀ o, ωc b = some o → ω' b = some .outer := by
    intro b hb' o hω
    have ho : o = .outer := by
      simp only [ωc] at hω
      split at hω
      · exact absurd hω (by simp)
      · injection hω with hω; exact hω.symm
    subst ho
    exact (h1.keep b _ hb' hω (fun h => h rfl)).2
  let ωr : Own := fun b => if b < w.heap.size then ω b else match ω' b with | none => none | some (.slot _) => some .res | some _ => some .outer
  have hltr : ∀ b, w'.heap.size ≤ b → ωr b = none := by
    intro b hb'
    have : ¬ b < w.heap.size := by have := h1.size; omega
    simp only [ωr, if_neg this, h2.lt b hb']
  have hshr : ∀ b, ω' b = none → ωr b = none := by
    intro b hb'
    simp only [ωr]
    split
    · rename_i hlt'
      cases hω : ωc b with
      | none =>
        simp only [ωc] at hω
        split at hω
        · assumption
        · exact absurd hω (by simp)
      | some o => rw [hold'' b hlt' o hω] at hb'; exact absurd hb' (by simp)
    · rw [hb']
  have hitem : ∀ (x : Option Nat × MV) (u : Value), np x.2 = true → resU γ' ω' w' st' a'.tmps x u → ResI γ ωr w' x u := by
    rintro ⟨x1, x2⟩ u hnx (⟨s, hs, rfl⟩ | ⟨rfl, hr⟩)
    rotate_left
    · exact (hr.relabel hshr).np hnx
    have hslot := h2.slots s
    have hownr : ∀ b, ω' b = some (.slot s) → ωr b = some .res := by
      intro b hb'
      simp only [ωr]
      split
      · rename_i hlt'
        cases hω : ωc b with
        | none => rw [hold' b hlt' hω] at hb'; exact absurd hb' (by simp)
        | some o => rw [hold'' b hlt' o hω] at hb'; exact absurd hb' (by simp)
      · rw [hb']
    have hown : ∀ {sz : Nat} {m : MV} {u : Value}, np m = true → OwnRep γ' ω' w' (.slot s) sz m u → OwnRep γ ωr w' .res sz m u := by
      intro sz m u hn hu
      cases hu with
      | list es _ e2 xs hr2 hcl ho =>
        refine .list sz es u e2 xs hr2 ⟨hcl.len, hcl.wid, hcl.one, fun j e hj i c hi => ?_⟩ (fun b hb => ⟨hownr b (ho b hb).1, (ho b hb).2⟩)
        obtain ⟨u', h1, h2⟩ := hcl.rep j e hj i c hi
        exact ⟨u', h1, (h2.relabel hshr).np (npL_get (npLL_get (by simpa [np] using hn) j e hj) i c hi)⟩
      | map m blk es clock ho hltb hb he =>
        exact .map sz m blk es clock (hownr blk ho) hltb hb ⟨he.len, he.key, fun i x e hx hee => ((he.val i x e hx hee).relabel hshr).np (npE_get (by simpa [np] using hn) i x hx), he.born, he.nodup⟩
    cases hc : lk st'.v s with
    | sh m' =>
      rw [hc] at hs hslot
      cases x1 with
      | none =>
        have hr : Rep γ' ω' w' x2 (a'.tmps.getD s undef) := by
          rcases hs with hs | hs
          · subst hs; exact hslot
          · subst hs; exact Rep.top hslot
        exact (hr.relabel hshr).np hnx
      | some sz =>
        cases m' with
        | nil =>
          cases x2 with
          | list es =>
            cases es with
            | nil =>
              have hv : a'.tmps.getD s undef = .slice none 0 0 := by
                have : Rep γ' ω' w' .nil (a'.tmps.getD s undef) := hslot
                generalize a'.tmps.getD s undef = v at this ⊢
                cases this; rfl
              rw [hv]
              exact OwnRep.list sz [] _ 0 [] (World.ownsRow_nil w' 0 0 sz) ⟨by simp, by simp, by simp, by simp⟩ (fun b hb => by simp [Value.ownBlock] at hb)
            | cons => simp [resI] at hs
          | _ => simp [resI] at hs
        | _ => cases x2 <;> simp [resI] at hs
    | own sz' m' =>
      rw [hc] at hs hslot
      cases x1 with
      | none => simp [resI] at hs
      | some sz =>
        have h1 : sz' = sz ∧ m' = x2 := hs
        obtain ⟨e1, e2⟩ := h1
        subst e1; subst e2
        exact hown hnx hslot
    | _ => rw [hc] at hs; cases x1 <;> simp [resI] at hs
  have key : a'.defers = [] ∧ ∃ v, (results fn a'.tmps).run P w' = .ok v w' ∧ ∃ v' ω', Ending.returned v = .returned v' ∧ Chg (fun _ => False) γ ω w γ ω' w' ∧ (∀ b, w'.heap.size ≤ b → ω' b = none) ∧ (∀ b, b < w.heap.size → ω' b = ω b) ∧
      (∀ b, w.heap.size ≤ b → ω' b = none ∨ ω' b = some .outer ∨ ω' b = some .res) ∧ ResRep γ ω' w' r v' := by
    refine ⟨h2.defers, v, hrun, v, ωr, rfl, ⟨h1.os, h1.tape, h1.output, h1.size, fun _ _ h => h, fun b hb h0 => ⟨heap b hb, by simp only [ωr, if_pos hb]; exact h0⟩, fun b o hb h0 _ => ⟨heap b hb, by simp only [ωr, if_pos hb]; exact h0⟩⟩, hltr, fun b hb => by simp only [ωr, if_pos hb], ?_, ?_⟩
    · intro b hb
      have : ¬ b < w.heap.size := by omega
      simp only [ωr, if_neg this]
      split
      · exact .inl rfl
      · exact .inr (.inr rfl)
      · exact .inr (.inl rfl)
    · match r, us, g1 with
      | [x], [u], _ =>
        show ResI γ ωr w' x v
        rw [hv1 u rfl]
        exact hitem x u (hnp x (by simp)) (g3 0 x u rfl rfl)
      | [], [], _ => exact ⟨[], hv2 (by simp), rfl, by simp⟩
      | x :: y :: q, us, g1 =>
        refine ⟨us, hv2 (by rw [g1]; simp), g1, fun i z u hz hu => hitem z u (hnp z (List.mem_of_getElem? hz)) (g3 i z u hz hu)⟩
  cases e with
  | normal => exact key
  | ret => exact key
  | exit id => exact h3.elim


theorem plc_ss (a b : Nat) : (Place.slot a == Place.slot b) = decide (a = b) := by
  by_cases h : a = b
  · subst h; simp
  · simp [h]
theorem plc_sc (a k o : Nat) : (Place.slot a == Place.cell k o) = false := by rfl
theorem plc_cs (a k o : Nat) : (Place.cell k o == Place.slot a) = false := by rfl
theorem plc_cc (a b k o : Nat) : (Place.cell a b == Place.cell k o) = (decide (a = k) && decide (b = o)) := by
  by_cases h : a = k
  · by_cases h2 : b = o
    · subst h; subst h2; simp
    · simp [h, h2]
  · simp [h]
theorem bin_aeq (P : Program) (T : TypeId) (xs ys : List MV) (H : MV → Prop) : binP P .eql T (.agg xs) (.agg ys) H = (match eqTy P T with
    | some ts => match eqCells ts xs ys with
      | some b => H (.bool b)
      | none => False
    | none => False) := rfl
theorem bin_ane (P : Program) (T : TypeId) (xs ys : List MV) (H : MV → Prop) : binP P .neq T (.agg xs) (.agg ys) H = (match eqTy P T with
    | some ts => match eqCells ts xs ys with
      | some b => H (.bool (!b))
      | none => False
    | none => False) := rfl
attribute [push_cast] bin_aeq bin_ane Bool.and_self
attribute [push_cast] Option.isNone_none plc_ss plc_sc plc_cs plc_cc
end Go.Pv
