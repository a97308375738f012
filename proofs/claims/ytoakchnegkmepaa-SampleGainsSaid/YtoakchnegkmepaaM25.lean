/- A library of this session: the road to the contract of a function that turns boxes. -/
import Derived.Test.YtoakchnegkmepaaM24
set_option linter.unusedVariables false
set_option linter.unusedSimpArgs false
namespace Go.Pv

def postBP (P : Program) (rs : List ResultVar) (r : Res) (B' : List (Option (List Ct))) : PX → St → Prop
  | .normal, st' | .ret, st' => resP P st' rs r ∧ st'.B = B'
  | _, _ => False

theorem specB_of {P : Program} {f : FuncId} {fn : Func} {c : Code} {args : List MV} {r : Res} {B B' : List (Option (List Ct))} {nt : Nat} {rs : List ResultVar} (hf : P.funcs[f]? = some fn) (hb : fn.body = some c) (hnt : fn.ntmps = nt) (hrs : fn.results.toList = rs) (hname : (fn.name == "runtime.NumGoroutine") = false) (hna : args.length ≤ nt) (hBB : B'.length = B.length)
    (h : PW P nt c ⟨argsV 0 args, B⟩ (postBP P rs r B')) : SpecB P f args B r B' := by
  subst hnt; subst hrs
  refine ⟨fun as w => ?_, fun γ ω w vs hl hv hlt hlab hB => ?_⟩
  · have h1 : fn.name ≠ "runtime.NumGoroutine" := by simpa using hname
    simp [callFunc, hf, h1, hb, mark]
  have hR : Rel γ ω w fn.ntmps ⟨argsV 0 args, B⟩ { tmps := vs.toArray ++ Array.replicate (fn.ntmps - vs.toArray.size) undef, defers := [] } := by
    refine ⟨by simp; omega, rfl, hlt, hB, fun s => ?_⟩
    simp only
    rw [lk_argsV]
    simp only [Nat.zero_le, if_true, Nat.sub_zero]
    cases hm : args[s]? with
    | none => trivial
    | some m =>
      have hs : s < vs.length := by rw [hl]; exact (List.getElem?_eq_some_iff.1 hm).1
      have e : (vs.toArray ++ Array.replicate (fn.ntmps - vs.toArray.size) undef).getD s undef = vs[s] := by
        rw [Array.getD_eq_getD_getElem?, Array.getElem?_append_left (by simpa using hs)]
        simp [hs]
      rw [e]
      exact hv s m vs[s] hm (List.getElem?_eq_getElem hs)
  refine calls_of_wp hf hb (h γ ω w _ _ hR (fun e γ' ω' w' st' a' h1 h2 h3 => ?_))
  have hpost : resP P st' fn.results.toList r ∧ st'.B = B' := by cases e <;> first | exact h3 | exact h3.elim
  obtain ⟨hpost, hstB⟩ := hpost
  obtain ⟨us, g1, g2, g3⟩ := resP_ok h2 hpost
  obtain ⟨v, hrun, hv1, hv2⟩ := results_run g2
  have hγ : γ' = γ := by
    have e1 : γ'.length = γ.length := by rw [← h2.boxes.len, hstB, hBB, hB.len]
    refine List.ext_getElem? (fun k => ?_)
    cases hk : γ[k]? with
    | some b => exact h1.pre k b hk
    | none =>
      have : γ.length ≤ k := List.getElem?_eq_none_iff.1 hk
      exact List.getElem?_eq_none_iff.2 (by omega)
  subst hγ
  let ωr : Own := fun b => match ω' b with | none => none | some (.slot _) => some .res | some .res => some .outer | some o => some o
  have hn : ∀ b, ω' b = none → ωr b = none := fun b hb' => by simp only [ωr, hb']
  have hbx : ∀ b o, isBoxO o = true → ω' b = some o → ωr b = some o := by
    intro b o ho hb'
    simp only [ωr, hb']
    cases o <;> simp [isBoxO] at ho <;> rfl
  have hsl : ∀ b s, ω' b = some (.slot s) → ωr b = some .res := fun b s hb' => by simp only [ωr, hb']
  have hitem : ∀ (x : Option Nat × MV) (u : Value), resU γ' ω' w' st' a'.tmps x u → ResI γ' ωr w' x u := by
    rintro ⟨x1, x2⟩ u (⟨s, hs, rfl⟩ | ⟨rfl, hr⟩)
    rotate_left
    · exact hr.relabel hn
    have hslot := h2.slots s
    cases hc : lk st'.v s with
    | sh m' =>
      rw [hc] at hs hslot
      cases x1 with
      | none =>
        have hr : Rep γ' ω' w' x2 (a'.tmps.getD s undef) := by
          rcases hs with hs | hs
          · subst hs; exact hslot
          · subst hs; exact Rep.top hslot
        exact hr.relabel hn
      | some sz =>
        cases m' with
        | nil =>
          cases x2 with
          | list es =>
            cases es with
            | nil =>
              have hv : a'.tmps.getD s undef = .slice none 0 0 := by
                have : Rep γ' ω' w' .nil (a'.tmps.getD s undef) := hslot
                generalize a'.tmps.getD s undef = v at this ⊢
                cases this; rfl
              rw [hv]
              exact OwnRep.list sz [] _ 0 [] (World.ownsRow_nil w' 0 0 sz) ⟨by simp, by simp, by simp, by simp⟩ (fun b hb => by simp [Value.ownBlock] at hb)
            | cons => simp [resI] at hs
          | _ => simp [resI] at hs
        | _ => cases x2 <;> simp [resI] at hs
    | own sz' m' =>
      rw [hc] at hs hslot
      cases x1 with
      | none => simp [resI] at hs
      | some sz =>
        have h1 : sz' = sz ∧ m' = x2 := hs
        obtain ⟨e1, e2⟩ := h1
        subst e1; subst e2
        exact OwnRep.relab hn (fun b hb => hsl b s hb) hslot
    | _ => rw [hc] at hs; cases x1 <;> simp [resI] at hs
  have key : a'.defers = [] ∧ ∃ v, (results fn a'.tmps).run P w' = .ok v w' ∧ ∃ v' ω', Ending.returned v = .returned v' ∧ Chg (fun o => isBoxO o = true) γ' ω w γ' ω' w' ∧ (∀ b, w'.heap.size ≤ b → ω' b = none) ∧
      (∀ b o, ω' b = some o → isBoxO o = true ∨ o = .outer ∨ o = .res) ∧ Boxes γ' ω' w' B' ∧ ResRep γ' ω' w' r v' := by
    refine ⟨h2.defers, v, hrun, v, ωr, rfl, ⟨h1.os, h1.tape, h1.output, h1.size, fun _ _ h => h, fun b hb' h0 => ?_, fun b o hb' h0 hno => ?_⟩, fun b hb' => hn b (h2.lt b hb'), fun b o hb' => ?_, ?_, ?_⟩
    · obtain ⟨e1, e2⟩ := h1.none b hb' h0
      exact ⟨e1, hn b e2⟩
    · have ho : o = .outer := by
        rcases hlab b o h0 with h | h
        · exact absurd h hno
        · exact h
      subst ho
      obtain ⟨e1, e2⟩ := h1.keep b _ hb' h0 (fun h => h rfl)
      exact ⟨e1, by simp only [ωr, e2]⟩
    · simp only [ωr] at hb'
      split at hb'
      · exact absurd hb' (by simp)
      · injection hb' with hb'; exact .inr (.inr hb'.symm)
      · injection hb' with hb'; exact .inr (.inl hb'.symm)
      · rename_i o' hn1 hn2 hw
        injection hb' with hb'; subst hb'
        cases o' with
        | box k => exact .inl rfl
        | cell k i => exact .inl rfl
        | outer => exact .inr (.inl rfl)
        | slot s => exact absurd rfl (hn1 s)
        | res => exact absurd rfl hn2
    · rw [← hstB]; exact h2.boxes.relab hn hbx
    · match r, us, g1 with
      | [x], [u], _ =>
        show ResI γ' ωr w' x v
        rw [hv1 u rfl]
        exact hitem x u (g3 0 x u rfl rfl)
      | [], [], _ => exact ⟨[], hv2 (by simp), rfl, by simp⟩
      | x :: y :: q, us, g1 =>
        refine ⟨us, hv2 (by rw [g1]; simp), g1, fun i z u hz hu => hitem z u (g3 i z u hz hu)⟩
  cases e with
  | normal => exact key
  | ret => exact key
  | exit id => exact h3.elim

end Go.Pv
