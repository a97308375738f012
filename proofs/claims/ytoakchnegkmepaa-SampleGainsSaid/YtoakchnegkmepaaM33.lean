/- A library of this session: boxes of one's own behind those that came in; a contract over one box is one over many. -/
import Derived.Test.YtoakchnegkmepaaM32
set_option linter.unusedVariables false
set_option linter.unusedSimpArgs false
namespace Go.Pv

def npC : Ct → Bool
  | .sh m => np m
  | .dead => true
  | _ => false

/-- Boxes that hold shared things without pointers. -/
def npB (b : Option (List Ct)) : Prop := ∀ cs, b = some cs → ∀ c ∈ cs, npC c = true

def npR (r : Res) : Prop := ∀ x ∈ r, x.1 = none ∧ np x.2 = true

theorem ResRep.npx {γ γ' : List Nat} {ω ω' : Own} {w : World} (hn : ∀ b, ω b = none → ω' b = none) {r : Res} (hr : npR r) {v : Value} (h : ResRep γ ω w r v) : ResRep γ' ω' w r v := by
  have one : ∀ x ∈ r, ∀ u, ResI γ ω w x u → ResI γ' ω' w x u := by
    rintro ⟨x1, x2⟩ hx u hu
    obtain ⟨h1, h2⟩ := hr _ hx
    simp only at h1 h2
    subst h1
    have hu' : Rep γ ω w x2 u := hu
    exact (hu'.relabel hn).np h2
  match r, h with
  | [x], h => exact one x (by simp) v h
  | [], h =>
    obtain ⟨vs, h1, h2, h3⟩ := h
    exact ⟨vs, h1, h2, by simp⟩
  | x :: y :: q, h =>
    obtain ⟨vs, h1, h2, h3⟩ := h
    exact ⟨vs, h1, h2, fun i z u hz hu => one z (List.mem_of_getElem? hz) u (h3 i z u hz hu)⟩

theorem SpecB.frame {P : Program} {f : FuncId} {args : List MV} {r : Res} {off : Nat} {b b' : Option (List Ct)} (h : SpecB P f (.ptr 0 off :: args) [b] r [b']) (ha : ∀ x ∈ args, np x = true) (hr : npR r) (hb : npB b) (hb' : npB b')
    {B : List (Option (List Ct))} {k : Nat} (hB : B[k]? = some b) : SpecB P f (.ptr k off :: args) B r (B.set k b') := by
  refine ⟨h.1, fun γ ω w vs hl hv hlt hlab hBx => ?_⟩
  have hkB : k < B.length := (List.getElem?_eq_some_iff.1 hB).1
  have hkγ : k < γ.length := by rw [← hBx.len]; exact hkB
  obtain ⟨blk, hblk⟩ : ∃ blk, γ[k]? = some blk := ⟨_, List.getElem?_eq_getElem hkγ⟩
  let rl : Owner → Owner := fun o => match o with
    | .box j => if j = k then .box 0 else .outer
    | .cell j i => if j = k then .cell 0 i else .outer
    | o => o
  let ωs : Own := fun x => (ω x).map rl
  have hn : ∀ x, ω x = none → ωs x = none := fun x hx => by simp [ωs, hx]
  have hn2 : ∀ x, ωs x = none → ω x = none := fun x hx => by simpa [ωs] using hx
  have hvs : ∀ (i : Nat) (c : MV) (v : Value), (MV.ptr 0 off :: args)[i]? = some c → vs[i]? = some v → Rep [blk] ωs w c v := by
    intro i c v hc hvv
    cases i with
    | zero =>
      simp only [List.getElem?_cons_zero, Option.some.injEq] at hc
      subst hc
      have h0 := hv 0 (.ptr k off) v rfl hvv
      cases h0 with
      | ptr _ _ bb hbb =>
        rw [hblk] at hbb; injection hbb with hbb; subst hbb
        exact .ptr 0 off blk rfl
    | succ i =>
      have hc' : args[i]? = some c := by simpa using hc
      exact ((hv (i + 1) c v (by simpa using hc') hvv).relabel hn).np (ha c (List.mem_of_getElem? hc'))
  have hBs : Boxes [blk] ωs w [b] := by
    refine ⟨rfl, fun j cs hj => ?_⟩
    cases j with
    | succ j => simp at hj
    | zero =>
      simp only [List.getElem?_cons_zero, Option.some.injEq] at hj
      subst hj
      obtain ⟨blk2, cur, e, h1, h2, h3, h4, h5, h6⟩ := hBx.box k cs hB
      rw [hblk] at h1; injection h1 with h1; subst h1
      refine ⟨blk, cur, e, rfl, h2, by simp [ωs, rl, h3], h4, h5, fun i c hc => ?_⟩
      obtain ⟨u, hu, ho, hbc⟩ := h6 i c hc
      refine ⟨u, hu, ho, ?_⟩
      have hnp := hb cs rfl c (List.mem_of_getElem? hc)
      cases c with
      | sh m => exact ((show Rep γ ω w m u from hbc).relabel hn).np (by simpa [npC] using hnp)
      | dead => trivial
      | _ => simp [npC] at hnp
  refine Calls.mono (h.2 [blk] ωs w vs (by simpa using hl) hvs (fun x hx => hn x (hlt x hx)) (fun x o hx => ?_) hBs) ?_
  · have : ∃ o', ω x = some o' ∧ rl o' = o := by simpa [ωs] using hx
    obtain ⟨o', h1, h2⟩ := this
    subst h2
    rcases hlab x o' h1 with h3 | h3
    · cases o' <;> simp [isBoxO] at h3 <;> simp only [rl] <;> split <;> simp [isBoxO]
    · subst h3; exact .inr rfl
  rintro e w' ⟨v, ω1, rfl, hch, hlt1, hlab1, hB1, hres⟩
  let rk : Owner → Owner := fun o => match o with
    | .box _ => .box k
    | .cell _ i => .cell k i
    | o => o
  let ω' : Own := fun x => if x < w.heap.size ∧ ωs x = some .outer then ω x else (ω1 x).map rk
  have hout : ∀ x, x < w.heap.size → ωs x = some .outer → w'.heap[x]? = w.heap[x]? ∧ ω1 x = some .outer := fun x hx ho => hch.keep x .outer hx ho (by simp [isBoxO])
  have hn1 : ∀ x, ω1 x = none → ω' x = none := by
    intro x hx
    have hno : ¬ (x < w.heap.size ∧ ωs x = some .outer) := fun hh => by rw [(hout x hh.1 hh.2).2] at hx; simp at hx
    simp only [ω', if_neg hno, hx]; rfl
  have hcg : Chg (fun o => o = .box k ∨ ∃ i, o = .cell k i) γ ω w γ ω' w' := by
    refine ⟨hch.os, hch.tape, hch.output, hch.size, fun _ _ h => h, fun x hx h0 => ?_, fun x o hx h0 ho => ?_⟩
    · obtain ⟨e1, e2⟩ := hch.none x hx (hn x h0)
      exact ⟨e1, hn1 x e2⟩
    · have hs : ωs x = some .outer := by
        simp only [ωs, h0, Option.map_some, Option.some.injEq]
        rcases hlab x o h0 with h3 | h3
        · cases o <;> simp [isBoxO] at h3
          · rename_i j; simp only [rl]; rw [if_neg (fun e => ho (.inl (by rw [e])))]
          · rename_i j i; simp only [rl]; rw [if_neg (fun e => ho (.inr ⟨i, by rw [e]⟩))]
        · subst h3; rfl
      obtain ⟨e1, e2⟩ := hout x hx hs
      refine ⟨e1, ?_⟩
      simp only [ω', if_pos (And.intro hx hs)]; exact h0
  refine ⟨v, ω', rfl, hcg.mono (fun o ho => by rcases ho with rfl | ⟨i, rfl⟩ <;> rfl), fun x hx => hn1 x (hlt1 x hx), fun x o hx => ?_, ?_, hres.npx hn1 hr⟩
  · simp only [ω'] at hx
    split at hx
    · rcases hlab x o hx with h3 | h3
      · exact .inl h3
      · exact .inr (.inl h3)
    · cases h1 : ω1 x with
      | none => rw [h1] at hx; simp at hx
      | some o1 =>
        rw [h1] at hx
        simp only [Option.map_some, Option.some.injEq] at hx
        subst hx
        rcases hlab1 x o1 h1 with h3 | h3 | h3
        · left; cases o1 <;> simp [isBoxO] at h3 <;> rfl
        · subst h3; exact .inr (.inl rfl)
        · subst h3; exact .inr (.inr rfl)
  · refine ⟨by rw [List.length_set]; exact hBx.len, fun j cs hj => ?_⟩
    by_cases hjk : k = j
    · subst hjk
      rw [List.getElem?_set_self hkB] at hj
      injection hj with hj
      obtain ⟨blk2, cur, e, h1, h2, h3, h4, h5, h6⟩ := hB1.box 0 cs (by simp [hj])
      simp only [List.getElem?_cons_zero, Option.some.injEq] at h1
      subst h1
      have hnb : ¬ (blk < w.heap.size ∧ ωs blk = some .outer) := fun hh => by
        have := (hout blk hh.1 hh.2).2
        rw [h3] at this; simp at this
      refine ⟨blk, cur, e, hblk, h2, by simp only [ω', if_neg hnb, h3]; rfl, h4, h5, fun i c hc => ?_⟩
      obtain ⟨u, hu, ho, hbc⟩ := h6 i c hc
      refine ⟨u, hu, ho, ?_⟩
      have hnp := hb' cs hj c (List.mem_of_getElem? hc)
      cases c with
      | sh m => exact ((show Rep [blk] ω1 w' m u from hbc).relabel hn1).np (by simpa [npC] using hnp)
      | dead => trivial
      | _ => simp [npC] at hnp
    · rw [List.getElem?_set_ne hjk] at hj
      obtain ⟨blk2, cur, e, h1, h2, h3, h4, h5, h6⟩ := hBx.box j cs hj
      obtain ⟨e1, e2⟩ := hcg.keep blk2 _ h2 h3 (by
        rintro (hh | ⟨i, hh⟩)
        · injection hh with hh; exact hjk hh.symm
        · exact absurd hh (by simp))
      refine ⟨blk2, cur, e, h1, Nat.lt_of_lt_of_le h2 hcg.size, e2, e1.trans h4, h5, fun i c hc => ?_⟩
      obtain ⟨u, hu, ho, hbc⟩ := h6 i c hc
      exact ⟨u, hu, ho, hbc.chg hcg (by
        rintro (hh | ⟨i2, hh⟩)
        · exact absurd hh (by simp)
        · injection hh with hh _; exact hjk hh.symm)⟩

/-! ### Boxes of one's own -/
def postBA (P : Program) (rs : List ResultVar) (r : Res) (B' : List (Option (List Ct))) : PX → St → Prop
  | .normal, st' | .ret, st' => resP P st' rs r ∧ ∃ ex, st'.B = B' ++ ex
  | _, _ => False

theorem specB_ofA {P : Program} {f : FuncId} {fn : Func} {c : Code} {args : List MV} {r : Res} {B B' : List (Option (List Ct))} {nt : Nat} {rs : List ResultVar} (hf : P.funcs[f]? = some fn) (hb : fn.body = some c) (hnt : fn.ntmps = nt) (hrs : fn.results.toList = rs) (hname : (fn.name == "runtime.NumGoroutine") = false) (hna : args.length ≤ nt) (hBB : B'.length = B.length) (hnr : npR r) (hnb : ∀ b ∈ B', npB b)
    (h : PW P nt c ⟨argsV 0 args, B⟩ (postBA P rs r B')) : SpecB P f args B r B' := by
  subst hnt; subst hrs
  refine ⟨fun as w => ?_, fun γ ω w vs hl hv hlt hlab hB => ?_⟩
  · have h1 : fn.name ≠ "runtime.NumGoroutine" := by simpa using hname
    simp [callFunc, hf, h1, hb, mark]
  have hR : Rel γ ω w fn.ntmps ⟨argsV 0 args, B⟩ { tmps := vs.toArray ++ Array.replicate (fn.ntmps - vs.toArray.size) undef, defers := [] } := by
    refine ⟨by simp; omega, rfl, hlt, hB, fun s => ?_⟩
    simp only
    rw [lk_argsV]
    simp only [Nat.zero_le, if_true, Nat.sub_zero]
    cases hm : args[s]? with
    | none => trivial
    | some m =>
      have hs : s < vs.length := by rw [hl]; exact (List.getElem?_eq_some_iff.1 hm).1
      have e : (vs.toArray ++ Array.replicate (fn.ntmps - vs.toArray.size) undef).getD s undef = vs[s] := by
        rw [Array.getD_eq_getD_getElem?, Array.getElem?_append_left (by simpa using hs)]
        simp [hs]
      rw [e]
      exact hv s m vs[s] hm (List.getElem?_eq_getElem hs)
  refine calls_of_wp hf hb (h γ ω w _ _ hR (fun e γ' ω' w' st' a' h1 h2 h3 => ?_))
  have hpost : resP P st' fn.results.toList r ∧ ∃ ex, st'.B = B' ++ ex := by cases e <;> first | exact h3 | exact h3.elim
  obtain ⟨hpost, hstB⟩ := hpost
  obtain ⟨us, g1, g2, g3⟩ := resP_ok h2 hpost
  obtain ⟨v, hrun, hv1, hv2⟩ := results_run g2
  obtain ⟨ex, hstB⟩ := hstB
  let ωr : Own := fun b => match ω' b with | none => none | some (.slot _) => some .res | some .res => some .outer | some o => some o
  have hn : ∀ b, ω' b = none → ωr b = none := fun b hb' => by simp only [ωr, hb']
  have hbx : ∀ b o, isBoxO o = true → ω' b = some o → ωr b = some o := by
    intro b o ho hb'
    simp only [ωr, hb']
    cases o <;> simp [isBoxO] at ho <;> rfl
  have hsl : ∀ b s, ω' b = some (.slot s) → ωr b = some .res := fun b s hb' => by simp only [ωr, hb']
  have hitem : ∀ (x : Option Nat × MV) (u : Value), resU γ' ω' w' st' a'.tmps x u → ResI γ' ωr w' x u := by
    rintro ⟨x1, x2⟩ u (⟨s, hs, rfl⟩ | ⟨rfl, hr⟩)
    rotate_left
    · exact hr.relabel hn
    have hslot := h2.slots s
    cases hc : lk st'.v s with
    | sh m' =>
      rw [hc] at hs hslot
      cases x1 with
      | none =>
        have hr : Rep γ' ω' w' x2 (a'.tmps.getD s undef) := by
          rcases hs with hs | hs
          · subst hs; exact hslot
          · subst hs; exact Rep.top hslot
        exact hr.relabel hn
      | some sz =>
        cases m' with
        | nil =>
          cases x2 with
          | list es =>
            cases es with
            | nil =>
              have hv : a'.tmps.getD s undef = .slice none 0 0 := by
                have : Rep γ' ω' w' .nil (a'.tmps.getD s undef) := hslot
                generalize a'.tmps.getD s undef = v at this ⊢
                cases this; rfl
              rw [hv]
              exact OwnRep.list sz [] _ 0 [] (World.ownsRow_nil w' 0 0 sz) ⟨by simp, by simp, by simp, by simp⟩ (fun b hb => by simp [Value.ownBlock] at hb)
            | cons => simp [resI] at hs
          | _ => simp [resI] at hs
        | _ => cases x2 <;> simp [resI] at hs
    | own sz' m' =>
      rw [hc] at hs hslot
      cases x1 with
      | none => simp [resI] at hs
      | some sz =>
        have h1 : sz' = sz ∧ m' = x2 := hs
        obtain ⟨e1, e2⟩ := h1
        subst e1; subst e2
        exact OwnRep.relab hn (fun b hb => hsl b s hb) hslot
    | _ => rw [hc] at hs; cases x1 <;> simp [resI] at hs
  have key : a'.defers = [] ∧ ∃ v, (results fn a'.tmps).run P w' = .ok v w' ∧ ∃ v' ω', Ending.returned v = .returned v' ∧ Chg (fun o => isBoxO o = true) γ ω w γ ω' w' ∧ (∀ b, w'.heap.size ≤ b → ω' b = none) ∧
      (∀ b o, ω' b = some o → isBoxO o = true ∨ o = .outer ∨ o = .res) ∧ Boxes γ ω' w' B' ∧ ResRep γ ω' w' r v' := by
    refine ⟨h2.defers, v, hrun, v, ωr, rfl, ⟨h1.os, h1.tape, h1.output, h1.size, fun _ _ h => h, fun b hb' h0 => ?_, fun b o hb' h0 hno => ?_⟩, fun b hb' => hn b (h2.lt b hb'), fun b o hb' => ?_, ?_, ?_⟩
    · obtain ⟨e1, e2⟩ := h1.none b hb' h0
      exact ⟨e1, hn b e2⟩
    · have ho : o = .outer := by
        rcases hlab b o h0 with h | h
        · exact absurd h hno
        · exact h
      subst ho
      obtain ⟨e1, e2⟩ := h1.keep b _ hb' h0 (fun h => h rfl)
      exact ⟨e1, by simp only [ωr, e2]⟩
    · simp only [ωr] at hb'
      split at hb'
      · exact absurd hb' (by simp)
      · injection hb' with hb'; exact .inr (.inr hb'.symm)
      · injection hb' with hb'; exact .inr (.inl hb'.symm)
      · rename_i o' hn1 hn2 hw
        injection hb' with hb'; subst hb'
        cases o' with
        | box k => exact .inl rfl
        | cell k i => exact .inl rfl
        | outer => exact .inr (.inl rfl)
        | slot s => exact absurd rfl (hn1 s)
        | res => exact absurd rfl hn2
    · have hbb := h2.boxes.relab hn hbx
      rw [hstB] at hbb
      refine ⟨by rw [hBB]; exact hB.len, fun k cs hk => ?_⟩
      have hkl := (List.getElem?_eq_some_iff.1 hk).1
      obtain ⟨blk, cur, e, q1, q2, q3, q4, q5, q6⟩ := hbb.box k cs (by rw [List.getElem?_append_left hkl]; exact hk)
      have hkγ : k < γ.length := by rw [← hB.len, ← hBB]; exact hkl
      have hγk : γ[k]? = some blk := by
        have h3 := h1.pre k γ[k] (List.getElem?_eq_getElem hkγ)
        rw [q1] at h3; injection h3 with h3
        rw [List.getElem?_eq_getElem hkγ, h3]
      refine ⟨blk, cur, e, hγk, q2, q3, q4, q5, fun i c hc => ?_⟩
      obtain ⟨u, hu, ho, hbc⟩ := q6 i c hc
      refine ⟨u, hu, ho, ?_⟩
      have hnp := hnb _ (List.mem_of_getElem? hk) cs rfl c (List.mem_of_getElem? hc)
      cases c with
      | sh m => exact (show Rep γ' ωr w' m u from hbc).np (by simpa [npC] using hnp)
      | dead => trivial
      | _ => simp [npC] at hnp
    · refine ResRep.npx (γ := γ') (fun _ h => h) hnr ?_
      clear hnr h3 hpost
      match r, us, g1 with
      | [x], [u], _ =>
        show ResI γ' ωr w' x v
        rw [hv1 u rfl]
        exact hitem x u (g3 0 x u rfl rfl)
      | [], [], _ => exact ⟨[], hv2 (by simp), rfl, by simp⟩
      | x :: y :: q, us, g1 =>
        refine ⟨us, hv2 (by rw [g1]; simp), g1, fun i z u hz hu => hitem z u (g3 i z u hz hu)⟩
  cases e with
  | normal => exact key
  | ret => exact key
  | exit id => exact h3.elim



theorem cat1_get {α : Type} (l : List α) (a : α) : (l ++ [a])[l.length]? = some a := by simp
theorem cat1_set {α : Type} (l : List α) (a b : α) : (l ++ [a]).set l.length b = l ++ [b] := by
  induction l with
  | nil => rfl
  | cons x r ih => simp only [List.cons_append, List.length_cons, List.set_cons_succ, ih]
theorem cat2_get1 {α : Type} (l : List α) (a b : α) : (l ++ [a] ++ [b])[l.length + 1]? = some b := by
  have := cat1_get (l ++ [a]) b
  rw [List.length_append] at this
  exact this
theorem cat2_get0 {α : Type} (l : List α) (a b : α) : (l ++ [a] ++ [b])[l.length]? = some a := by simp
theorem cat2_set1 {α : Type} (l : List α) (a b c : α) : (l ++ [a] ++ [b]).set (l.length + 1) c = l ++ [a] ++ [c] := by
  have := cat1_set (l ++ [a]) b c
  rw [List.length_append] at this
  exact this
theorem cat2_set0 {α : Type} (l : List α) (a b c : α) : (l ++ [a] ++ [b]).set l.length c = l ++ [c] ++ [b] := by
  induction l with
  | nil => rfl
  | cons x r ih => simp only [List.cons_append, List.length_cons, List.set_cons_succ, ih]
attribute [push_cast] cat1_get cat1_set cat2_get0 cat2_get1 cat2_set0 cat2_set1 List.length_append postBA ownPl shNil bytesT St.spend nilness
end Go.Pv
