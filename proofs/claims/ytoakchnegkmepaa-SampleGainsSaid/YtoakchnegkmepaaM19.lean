/- A library of this session: contracts of functions that turn boxes. -/
import Derived.Test.YtoakchnegkmepaaM12
import Derived.Test.YtoakchnegkmepaaM18
set_option linter.unusedVariables false
set_option linter.unusedSimpArgs false
namespace Go.Pv

def isBoxO : Owner → Bool
  | .box _ => true
  | .cell _ _ => true
  | _ => false

/-- THE CONTRACT of a function that turns what pointers lead to: with these boxes, and then with those. -/
def SpecB (P : Program) (f : FuncId) (args : List MV) (B : List (Option (List Ct))) (r : Res) (B' : List (Option (List Ct))) : Prop :=
  (∀ (as : Array Value) (w : World), (callFunc f as).run P w = .ok (.enter f as) w) ∧ ∀ (γ : List Nat) (ω : Own) (w : World) (vs : List Value), vs.length = args.length → (∀ (i : Nat) (c : MV) (v : Value), args[i]? = some c → vs[i]? = some v → Rep γ ω w c v) →
    (∀ b, w.heap.size ≤ b → ω b = none) → (∀ b o, ω b = some o → isBoxO o = true ∨ o = .outer) → Boxes γ ω w B →
    Calls P f vs.toArray w fun e w' => ∃ v ω', e = .returned v ∧ Chg (fun o => isBoxO o = true) γ ω w γ ω' w' ∧ (∀ b, w'.heap.size ≤ b → ω' b = none) ∧
      (∀ b o, ω' b = some o → isBoxO o = true ∨ o = .outer ∨ o = .res) ∧ Boxes γ ω' w' B' ∧ ResRep γ ω' w' r v

theorem OwnRep.relab {γ : List Nat} {ω ω' : Own} {w : World} {o o' : Owner} (hn : ∀ b, ω b = none → ω' b = none) (ho : ∀ b, ω b = some o → ω' b = some o') {sz : Nat} {m : MV} {u : Value} (h : OwnRep γ ω w o sz m u) : OwnRep γ ω' w o' sz m u := by
  cases h with
  | list es _ e2 xs hr2 hcl hob =>
    refine .list sz es u e2 xs hr2 ⟨hcl.len, hcl.wid, hcl.one, fun j e hj i c hi => ?_⟩ (fun b hb => ⟨ho b (hob b hb).1, (hob b hb).2⟩)
    obtain ⟨u', h1, h2⟩ := hcl.rep j e hj i c hi
    exact ⟨u', h1, h2.relabel hn⟩
  | map m blk es clock hob hltb hb he =>
    exact .map sz m blk es clock (ho blk hob) hltb hb ⟨he.len, he.key, fun i x e hx hee => (he.val i x e hx hee).relabel hn, he.born, he.nodup⟩

theorem Boxes.relab {γ : List Nat} {ω ω' : Own} {w : World} (hn : ∀ b, ω b = none → ω' b = none) (ho : ∀ b o, isBoxO o = true → ω b = some o → ω' b = some o) {B : List (Option (List Ct))} (h : Boxes γ ω w B) : Boxes γ ω' w B :=
  ⟨h.len, fun k cs hk => by
    obtain ⟨blk, cur, e, h1, h2, h3, h4, h5, h6⟩ := h.box k cs hk
    refine ⟨blk, cur, e, h1, h2, ho _ _ rfl h3, h4, h5, fun i c hi => ?_⟩
    obtain ⟨u, hu, h1c, hb⟩ := h6 i c hi
    refine ⟨u, hu, h1c, ?_⟩
    cases c <;> simp only [BoxCt] at hb ⊢
    · exact hb.relabel hn
    · exact hb.relab hn (fun b hb => ho b _ rfl hb)
    all_goals exact hb⟩

theorem Spec.toB {P : Program} {f : FuncId} {args : List MV} {r : Res} (h : Spec P f args r) (B : List (Option (List Ct))) : SpecB P f args B r B := by
  refine ⟨h.1, fun γ ω w vs hl hv hlt hlab hB => ?_⟩
  refine (h.2 γ ω w vs hl hv hlt (fun b e => by rcases hlab b _ e with h | h <;> simp [isBoxO] at h)).mono ?_
  rintro e w' ⟨v, ω', he, hc, hlt', hold, hnew, hr⟩
  refine ⟨v, ω', he, hc.mono (fun _ h => h.elim), hlt', fun b o ho => ?_, hB.chg hc rfl (fun _ h => h) (fun _ _ h => h), hr⟩
  rcases Nat.lt_or_ge b w.heap.size with hb | hb
  · rw [hold b hb] at ho
    rcases hlab b o ho with h | h
    · exact .inl h
    · exact .inr (.inl h)
  · rcases hnew b hb with h | h | h
    · rw [h] at ho; simp at ho
    · rw [h] at ho; injection ho with ho; exact .inr (.inl ho.symm)
    · rw [h] at ho; injection ho with ho; exact .inr (.inr ho.symm)

def noCell : Ct → Ct
  | .al (.cell _ _) => .dead
  | .eadr (.cell _ _) _ _ => .dead
  | c => c

def killB : List (Nat × Ct) → List (Nat × Ct)
  | [] => []
  | (k, c) :: r => (k, noCell c) :: killB r

theorem lk_killB (v : List (Nat × Ct)) (s : Nat) : lk (killB v) s = noCell (lk v s) := by
  induction v with
  | nil => rfl
  | cons x r ih =>
    obtain ⟨k, c⟩ := x
    by_cases h : k = s
    · simp [killB, lk, h]
    · simp only [killB, lk, h, if_false]; exact ih

theorem call_coreB {P : Program} {γ : List Nat} {ω : Own} {w : World} {nt : Nat} {st : St} {a : Act} (h : Rel γ ω w nt st a) {g : FuncId} {args : List MV} {r : Res} {B' : List (Option (List Ct))} (hs : SpecB P g args st.B r B') (us : List Value) (hl : us.length = args.length) (d : Option Tmp) (hd : ∀ t, d = some t → t < nt)
    (hargs : ∀ (i : Nat) (c : MV) (v : Value), args[i]? = some c → us[i]? = some v → Rep γ ω w c v) :
    Calls P g us.toArray w fun e w' => ∃ v ω', e = .returned v ∧ Chg NotOuter γ ω w γ ω' w' ∧ Rel γ ω' w' nt (putO ⟨killB st.v, B'⟩ d (resC r)) (a.put d v) := by
  let ωc : Own := fun b => match ω b with | none => none | some o => if isBoxO o then some o else some .outer
  have hltc : ∀ b, w.heap.size ≤ b → ωc b = none := fun b hb => by simp [ωc, h.lt b hb]
  have hnc : ∀ b, ω b = none → ωc b = none := fun b hb => by simp [ωc, hb]
  have hlabc : ∀ b o, ωc b = some o → isBoxO o = true ∨ o = .outer := by
    intro b o hb
    simp only [ωc] at hb
    split at hb
    · simp at hb
    · split at hb
      · rename_i h1; injection hb with hb; subst hb; exact .inl h1
      · injection hb with hb; exact .inr hb.symm
  have hboxc : ∀ b o, isBoxO o = true → ω b = some o → ωc b = some o := fun b o h1 h2 => by simp [ωc, h2, h1]
  refine (hs.2 γ ωc w us hl (fun i c v hc hv => (hargs i c v hc hv).relabel hnc) hltc hlabc (h.boxes.relab hnc hboxc)).mono ?_
  rintro e w' ⟨v, ω', he, hc, hlt', hlab', hB', hr⟩
  let own : Owner := match d with | some t => .slot t | none => .outer
  have houter : ∀ b o, ω b = some o → isBoxO o = false → b < w.heap.size ∧ w'.heap[b]? = w.heap[b]? ∧ ω' b = some .outer := by
    intro b o hb ho
    have hlt : b < w.heap.size := by
      rcases Nat.lt_or_ge b w.heap.size with h1 | h1
      · exact h1
      · rw [h.lt b h1] at hb; simp at hb
    have := hc.keep b .outer hlt (by simp [ωc, hb, ho]) (by simp [isBoxO])
    exact ⟨hlt, this.1, this.2⟩
  let ω2 : Own := fun b => match ω b with
    | some o => if isBoxO o then (if ω' b = some .res then some own else ω' b) else some o
    | none => if ω' b = some .res then some own else ω' b
  have hcase : ∀ b, (∃ o, ω b = some o ∧ isBoxO o = false ∧ ω2 b = some o ∧ ω' b = some .outer) ∨ ω2 b = if ω' b = some .res then some own else ω' b := by
    intro b
    cases hω : ω b with
    | none => exact .inr (by simp only [ω2, hω])
    | some o =>
      cases ho : isBoxO o with
      | true => exact .inr (by simp only [ω2, hω, ho, if_true])
      | false => exact .inl ⟨o, rfl, ho, by simp [ω2, hω, ho], (houter b o hω ho).2.2⟩
  have hn2 : ∀ b, ω' b = none → ω2 b = none := by
    intro b hb
    rcases hcase b with ⟨o, _, _, _, h4⟩ | h1
    · rw [hb] at h4; simp at h4
    · rw [h1, hb]; simp
  have hb2 : ∀ b o, isBoxO o = true → ω' b = some o → ω2 b = some o := by
    intro b o ho hb
    rcases hcase b with ⟨o', _, _, _, h4⟩ | h1
    · rw [hb] at h4; injection h4 with h4; subst h4; simp [isBoxO] at ho
    · rw [h1, if_neg (by rw [hb]; intro e; injection e with e; subst e; simp [isBoxO] at ho)]; exact hb
  have hr2 : ∀ b, ω' b = some .res → ω2 b = some own := by
    intro b hb
    rcases hcase b with ⟨o', _, _, _, h4⟩ | h1
    · rw [hb] at h4; simp at h4
    · rw [h1, if_pos hb]
  have hc2 : Chg (fun o => isBoxO o = true) γ ω w γ ω2 w' := by
    refine ⟨hc.os, hc.tape, hc.output, hc.size, fun _ _ h => h, fun b hb h0 => ?_, fun b o hb h0 hno => ?_⟩
    · obtain ⟨e1, e2⟩ := hc.none b hb (hnc b h0)
      exact ⟨e1, hn2 b e2⟩
    · have hno' : isBoxO o = false := by simpa using hno
      obtain ⟨_, e1, e2⟩ := houter b o h0 hno'
      exact ⟨e1, by simp [ω2, h0, hno']⟩
  have hlt2 : ∀ b, w'.heap.size ≤ b → ω2 b = none := fun b hb => hn2 b (hlt' b hb)
  have hRel : Rel γ ω2 w' nt ⟨killB st.v, B'⟩ a := by
    refine ⟨h.size, h.defers, hlt2, hB'.relab hn2 hb2, fun s => ?_⟩
    show CtRep γ ω2 w' _ a.tmps (.slot s) (lk (killB st.v) s) _
    rw [lk_killB]
    have hold := h.slots s
    have hts : ¬ (isBoxO (.slot s) = true) := by simp [isBoxO]
    cases hcs : lk st.v s with
    | al p =>
      rw [hcs] at hold
      cases p with
      | slot s1 =>
        obtain ⟨⟨sz, m, h1⟩, h2⟩ := hold
        refine ⟨⟨sz, m, ?_⟩, h2⟩
        simp only [St.at] at h1 ⊢
        rw [lk_killB, h1]; rfl
      | cell k o => trivial
    | eadr p i o =>
      rw [hcs] at hold
      cases p with
      | slot s1 =>
        obtain ⟨sz, es, u, blk, h1, h2, h3, h4, h5⟩ := hold
        refine ⟨sz, es, u, blk, ?_, h2, h3, h4, h5⟩
        simp only [St.at] at h1 ⊢
        rw [lk_killB, h1]; rfl
      | cell k o => trivial
    | sh m => rw [hcs] at hold; exact Rep.chg hc2 hold
    | own sz m => rw [hcs] at hold; exact OwnRep.chg hc2 hts hold
    | tupc cs => rw [hcs] at hold; exact CtRep.chg (st := st) hc2 hts hold (fun q u hq => by simp [Ct.refs] at hq)
    | siter s' pos => rw [hcs] at hold; exact CtRep.chg (st := st) hc2 hts hold (fun q u hq => by simp [Ct.refs] at hq)
    | dead => trivial
  refine ⟨v, ω2, he, hc2.mono (fun o ho e => by subst e; simp [isBoxO] at ho), hRel.putO hd ?_⟩
  intro t ht
  subst ht
  refine resC_ok hr (fun i x u hx hu => ?_)
  obtain ⟨x1, x2⟩ := x
  cases x1 with
  | none => exact Rep.relabel hn2 hu
  | some sz => exact OwnRep.relab hn2 hr2 hu

/-- A call of a function that turns boxes. -/
def callBP (P : Program) (st : St) (dst : Option Tmp) (f : Operand) (xs : List Operand) (K : St → Prop) : Prop :=
  match fnOf st f with
  | none => False
  | some (g, cs) => match shvs (retOs st xs) xs with
    | some ms => ∃ r B', SpecB P g (ms.map MV.top ++ cs) (retOs st xs).B r B' ∧ K (putO ⟨killB (retOs st xs).v, B'⟩ dst (resC r))
    | none => False

theorem callB_ok {P : Program} {γ : List Nat} {ω : Own} {w : World} {nt : Nat} {st : St} {a : Act} (h : Rel γ ω w nt st a) {o : Oper} (hd : dOk o.dst nt) {c : Call} (ho : o.op = .call c) {f : Operand} (hcal : c.callee = .value f) {K : St → Prop} (hx : callBP P st o.dst f c.args.toList K) (Q : Exit → Act → World → Prop) :
    o.wp P a w (fun a' w' => ∃ γ' ω' st', Chg NotOuter γ ω w γ' ω' w' ∧ Rel γ' ω' w' nt st' a' ∧ K st') Q := by
  have hd' := dOk_iff hd
  obtain ⟨callee, args, argTypes⟩ := c
  simp only at hcal hx
  subst hcal
  unfold callBP at hx
  split at hx
  · exact hx.elim
  rename_i g cs hf
  obtain ⟨vs, hfe, hvl, hvr⟩ := fnOf_ok h hf
  split at hx
  · rename_i ms2 hms2
    obtain ⟨r, B', hs, hK⟩ := hx
    have hexec : (execOp a.eval o).run P w = .ok (.enter g (args.toList.map a.eval ++ vs).toArray) w := by
      have e' : args.map a.eval = (args.toList.map a.eval).toArray := Array.ext' (by simp)
      simp [execOp, ho, resolve, hfe, Deferred.ofValue, invoke, e', hs.1]
    obtain ⟨ω1, hcg, hR⟩ := Rel.retOs args.toList h
    obtain ⟨h1, h2⟩ := shvs_rep hR hms2
    have hcalls := call_coreB hR hs (args.toList.map a.eval ++ vs) (by have := h1; simp at this; simp [this, hvl]) o.dst hd' (app_get (by simpa using h1) (fun i c v hc hv => by
      rw [List.getElem?_map] at hc
      cases hm : ms2[i]? with
      | none => rw [hm] at hc; simp at hc
      | some m =>
        rw [hm] at hc; simp at hc; subst hc
        exact (h2 i m v hm hv).top) (fun i c v hc hv => ((hvr i c v hc hv).chg hcg)))
    unfold Oper.wp
    rw [hexec, Oper.upon_enter]
    refine hcalls.mono ?_
    rintro e w' ⟨v, ω', rfl, h1, h2⟩
    exact ⟨γ, ω', _, hcg.trans h1, h2, hK⟩
  · exact hx.elim

end Go.Pv
