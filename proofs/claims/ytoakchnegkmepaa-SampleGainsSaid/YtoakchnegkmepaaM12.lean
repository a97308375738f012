/- A library of this session: one operation; regions; statements; the road to a contract. -/
import Derived.Test.YtoakchnegkmepaaM11
set_option linter.unusedVariables false
set_option linter.unusedSimpArgs false
namespace Go.Pv

theorem own_to_rep' {γ : List Nat} {ω ω' : Own} {w : World} {o : Owner} (hω : ∀ b, ω b = some o → ω' b = none) (hn : ∀ b, ω b = none → ω' b = none) {sz : Nat} {m : MV} {v : Value} (h : OwnRep γ ω w o sz m v) : Rep γ ω' w m v := by
  cases h with
  | list es _ e xs hr hcl ho =>
    rcases hr.2 with ⟨rfl, h0⟩ | ⟨g, cap, cur, rfl, _⟩
    · have : es = [] := List.eq_nil_of_length_eq_zero h0
      subst this
      exact .list0 _ _
    · obtain ⟨cap', h1, h2, h3, us, hus⟩ := own_cells (.list sz es _ e xs hr hcl ho) (blk := g) rfl
      injection h1 with _ _ h1
      refine .list es sz g 0 cap us ?_ (hω g h2) h3 (fun e he => ?_) ?_ ?_
      · rcases hr.2 with ⟨h4, _⟩ | ⟨g', cap', cur', h4, _, _, h5, _⟩
        · exact absurd h4 (by simp)
        · injection h4 with _ _ h4; omega
      · obtain ⟨j, hj⟩ := List.getElem?_of_mem he
        exact (hus j e hj).1
      · intro j e hj i c hi
        rw [Nat.zero_add]
        exact ⟨((hus j e hj).2 i c hi).1, ((hus j e hj).2 i c hi).2.1⟩
      · intro j e hj i c hi
        exact ((hus j e hj).2 i c hi).2.2.relabel hn
  | map m blk es clock ho hlt hb he =>
    exact .map m blk es clock (hω blk ho) hb he.len he.key (fun i x e hx hee => (he.val i x e hx hee).relabel hn) hlt he.born he.nodup

def dOk (d : Option Tmp) (nt : Nat) : Prop := match d with | some t => t < nt | none => True

theorem dOk_iff {d : Option Tmp} {nt : Nat} (h : dOk d nt) : ∀ t, d = some t → t < nt := by
  intro t ht; subst ht; exact h

section
variable {P : Program} {γ : List Nat} {ω : Own} {w : World} {nt : Nat} {st : St} {a : Act}

theorem fnOf_ok (h : Rel γ ω w nt st a) {f : Operand} {g : FuncId} {cs : List MV} (hf : fnOf st f = some (g, cs)) : ∃ vs : List Value, a.eval f = .func (.func g) #[] vs.toArray ∧ vs.length = cs.length ∧ ∀ (i : Nat) (c : MV) (v : Value), cs[i]? = some c → vs[i]? = some v → Rep γ ω w c v := by
  cases f with
  | func f => simp only [fnOf] at hf; injection hf with hf; injection hf with h1 h2; subst h1; subst h2; exact ⟨[], rfl, rfl, by simp⟩
  | tmp t =>
    simp only [fnOf] at hf
    split at hf
    · rename_i f' cs' hc
      injection hf with hf; injection hf with h1 h2; subst h1; subst h2
      have hr : Rep γ ω w (.fn f' cs') (a.eval (.tmp t)) := slot_rep h t hc
      generalize a.eval (.tmp t) = v at hr ⊢
      cases hr with
      | fn _ _ vs hl hh => exact ⟨vs, rfl, hl, hh⟩
    · exact absurd hf (by simp)
  | _ => simp [fnOf] at hf

theorem app_get {cs ds : List MV} {vs us : List Value} (hl : vs.length = cs.length) {R : MV → Value → Prop} (h1 : ∀ (i : Nat) (c : MV) (v : Value), cs[i]? = some c → vs[i]? = some v → R c v) (h2 : ∀ (i : Nat) (c : MV) (v : Value), ds[i]? = some c → us[i]? = some v → R c v) :
    ∀ (i : Nat) (c : MV) (v : Value), (cs ++ ds)[i]? = some c → (vs ++ us)[i]? = some v → R c v := by
  intro i c v hc hv
  rcases Nat.lt_or_ge i cs.length with hi | hi
  · rw [List.getElem?_append_left hi] at hc
    rw [List.getElem?_append_left (by omega)] at hv
    exact h1 i c v hc hv
  · rw [List.getElem?_append_right hi] at hc
    rw [List.getElem?_append_right (by omega), hl] at hv
    exact h2 _ c v hc hv

theorem lent_val (h : Rel γ ω w nt st a) (lo : Owner → Bool) : ∀ {xs : List Operand} {ms : List MV}, opvs st xs = some ms → (∀ p ∈ lent st xs, lo p.owner = true) → (xs.map a.eval).length = ms.length ∧ ∀ (i : Nat) (c : MV) (v : Value), ms[i]? = some c → (xs.map a.eval)[i]? = some v →
    Rep γ (fun b => match ω b with | none => none | some o => if lo o then none else some .outer) w c v
  | [], ms, hx, _ => by simp [opvs] at hx; subst hx; simp
  | x :: r, ms, hx, hlo => by
    unfold opvs at hx
    split at hx
    · rename_i m l hm hl
      injection hx with hx; subst hx
      have hlo2 : ∀ p ∈ lent st r, lo p.owner = true := by
        intro p hp
        refine hlo p ?_
        unfold lent
        split
        · exact List.mem_cons_of_mem _ hp
        · exact hp
      obtain ⟨h1, h2⟩ := lent_val h lo hl hlo2
      refine ⟨by simpa using h1, fun i c v hc hv => ?_⟩
      cases i with
      | succ i => exact h2 i c v (by simpa using hc) (by simpa using hv)
      | zero =>
        simp at hc hv; subst hc; subst hv
        have hn : ∀ b, ω b = none → (match ω b with | none => none | some o => if lo o then none else some Owner.outer) = none := fun b hb => by rw [hb]
        cases hp : ownPl st x with
        | some p =>
          have hlp : lo p.owner = true := hlo p (by unfold lent; rw [hp]; exact List.mem_cons_self)
          have hat : ∃ sz, st.at p = .own sz m := by
            cases x with
            | tmp t =>
              simp only [ownPl] at hp
              simp only [opv] at hm
              split at hp
              · rename_i sz m' hc
                injection hp with hp; subst hp
                rw [hc] at hm; injection hm with hm; subst hm
                exact ⟨sz, hc⟩
              · rename_i q hc
                injection hp with hp; subst hp
                rw [hc] at hm
                simp only [rdc] at hm
                split at hm
                · rename_i sz m' hat; injection hm with hm; subst hm; exact ⟨sz, hat⟩
                · exact absurd hm (by simp)
              · exact absurd hp (by simp)
            | _ => simp [ownPl] at hp
          obtain ⟨sz, hat⟩ := hat
          refine own_to_rep' (fun b hb => ?_) hn (cur_own h hat (ownPl_ok h hp hat))
          rw [hb]; simp [hlp]
        | none =>
          have : Rep γ ω w m (a.eval x) := by
            cases x with
            | tmp t =>
              simp only [ownPl] at hp
              simp only [opv] at hm
              have hs := h.slots t
              cases hc : lk st.v t with
              | sh m' => rw [hc] at hm hs; injection hm with hm; subst hm; exact Rep.top hs
              | own sz m' => rw [hc] at hp; simp at hp
              | al q => rw [hc] at hp; simp at hp
              | _ => rw [hc] at hm; simp [rdc] at hm
            | const v =>
              simp only [opv] at hm
              cases hm' : mvConst v with
              | none => rw [hm'] at hm; simp at hm
              | some m' => rw [hm'] at hm; simp at hm; subst hm; exact (const_rep hm').top
            | func f => simp only [opv] at hm; injection hm with hm; subst hm; exact .fn f [] [] rfl (by simp)
            | global g => simp [opv] at hm
          exact this.relabel hn
    · exact absurd hx (by simp)

/-- A call. -/
theorem call_ok (h : Rel γ ω w nt st a) {o : Oper} (hd : dOk o.dst nt) {c : Call} (ho : o.op = .call c) {f : Operand} (hcal : c.callee = .value f) {K : St → Prop} (hx : callP P st o.dst f c.args.toList K) (Q : Exit → Act → World → Prop) :
    o.wp P a w (fun a' w' => ∃ γ' ω' st', Chg NotOuter γ ω w γ' ω' w' ∧ Rel γ' ω' w' nt st' a' ∧ K st') Q := by
  have hd' := dOk_iff hd
  obtain ⟨callee, args, argTypes⟩ := c
  simp only at hcal hx
  subst hcal
  unfold callP at hx
  split at hx
  · exact hx.elim
  rename_i g cs hf
  obtain ⟨vs, hfe, hvl, hvr⟩ := fnOf_ok h hf
  split at hx
  · exact hx.elim
  rename_i ms hms
  have hexec : ∀ (hent : ∀ (as : Array Value) (w : World), (callFunc g as).run P w = .ok (.enter g as) w), (execOp a.eval o).run P w = .ok (.enter g (args.toList.map a.eval ++ vs).toArray) w := by
    intro hent
    have e' : args.map a.eval = (args.toList.map a.eval).toArray := Array.ext' (by simp)
    simp [execOp, ho, resolve, hfe, Deferred.ofValue, invoke, e', hent]
  have fin : ∀ {r : Res} {ω1 : Own} {st1 : St}, (∀ (as : Array Value) (w : World), (callFunc g as).run P w = .ok (.enter g as) w) → Chg NotOuter γ ω w γ ω1 w → K (putO st1 o.dst (resC r)) →
      Calls P g (args.toList.map a.eval ++ vs).toArray w (fun e w' => ∃ v ω', e = .returned v ∧ Chg NotOuter γ ω1 w γ ω' w' ∧ Rel γ ω' w' nt (putO st1 o.dst (resC r)) (a.put o.dst v)) →
      o.wp P a w (fun a' w' => ∃ γ' ω' st', Chg NotOuter γ ω w γ' ω' w' ∧ Rel γ' ω' w' nt st' a' ∧ K st') Q := by
    intro r ω1 st1 hent hcg hK hcalls
    unfold Oper.wp
    rw [hexec hent, Oper.upon_enter]
    refine hcalls.mono ?_
    rintro e w' ⟨v, ω', rfl, h1, h2⟩
    exact ⟨γ, ω', _, hcg.trans h1, h2, hK⟩
  rcases hx with ⟨r, hs, hfl, hK⟩ | hx
  · let lo : Owner → Bool := fun o => (lent st args.toList).any (fun p => p.owner == o)
    have hlo : ∀ p ∈ lent st args.toList, lo p.owner = true := fun p hp => by
      simp only [lo, List.any_eq_true]; exact ⟨p, hp, by simp⟩
    obtain ⟨h1, h2⟩ := lent_val h lo hms hlo
    refine fin hs.1 (Chg.refl _ _ _ _) hK (call_core h hs _ (by have := h1; simp at this; simp [this, hvl]) o.dst hd' lo (fun _ => hfl) ?_)
    refine app_get h1 h2 (fun i c v hc hv => (hvr i c v hc hv).relabel (fun b hb => by rw [hb]))
  · split at hx
    · rename_i ms2 hms2
      obtain ⟨r, hs, hK⟩ := hx
      obtain ⟨ω1, hcg, hR⟩ := Rel.retOs args.toList h
      obtain ⟨h1, h2⟩ := shvs_rep hR hms2
      refine fin hs.1 hcg hK (call_core hR hs _ (by have := h1; simp at this; simp [this, hvl]) o.dst hd' (fun _ => false) (fun ⟨o, h⟩ => by simp at h) ?_)
      refine app_get (by simpa using h1) ?_ (fun i c v hc hv => ((hvr i c v hc hv).chg hcg).relabel (fun b hb => by rw [hb]))
      intro i c v hc hv
      rw [List.getElem?_map] at hc
      cases hm : ms2[i]? with
      | none => rw [hm] at hc; simp at hc
      | some m =>
        rw [hm] at hc; simp at hc; subst hc
        exact ((h2 i m v hm hv).top).relabel (fun b hb => by rw [hb])
    · exact hx.elim

end
end Go.Pv
