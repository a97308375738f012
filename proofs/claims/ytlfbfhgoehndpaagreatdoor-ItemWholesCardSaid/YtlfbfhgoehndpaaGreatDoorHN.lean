/- The library of this work, H texts, part N: one operation is right. -/
import Derived.Test.YtlfbfhgoehndpaaGreatDoorHM
set_option linter.unusedVariables false
set_option linter.unusedSimpArgs false
namespace Go.Pv

section
variable {α : Type} {x : α} {P : Program} {E : Env} {cl : Cl} {γ γ' : List Value} {ω ω' : Own} {w w' : World} {nt : Nat} {st : St} {a : Act} {K : St → Option α}

/-- What an operation comes to. -/
abbrev Opd (P : Program) (nt : Nat) (γ : List Value) (ω : Own) (w : World) (a : Act) (o : Oper) (K : St → Option α) (x : α) (Q : Exit → Act → World → Prop) : Prop :=
  o.wp P a w (fun a' w' => ∃ γ' ω' st', Chg NotOuter γ ω w γ' ω' w' ∧ Rel γ' ω' w' nt st' a' ∧ K st' = some x) Q

theorem dst_some {d : Option Tmp} {o : Option α} (h : dstF d nt o = some x) : (∀ t, d = some t → t < nt) ∧ o = some x := by
  unfold dstF at h
  split at h
  · obtain ⟨h1, h⟩ := sB_some h
    exact ⟨fun t ht => by injection ht with ht; subst ht; simpa using h1, h⟩
  · exact ⟨by simp, h⟩

theorem op_pure (hE : E.Ok P) (h : Rel γ ω w nt st a) {o : Oper} (hd : ∀ t, o.dst = some t → t < nt) (hx : pureF E st o.op (fun m => K (putO st o.dst m)) = some x) (Q : Exit → Act → World → Prop) : Opd P nt γ ω w a o K x Q := by
  have hp := pure_fok (Q := fun c => ∃ c', Ev c c' ∧ K (putO st o.dst c') = some x) hE (fun c c' e hk => ⟨c', e, hk⟩) hx
  obtain ⟨c, v, h1, h2, c', he, h3⟩ := pure_ok h hp
  show o.wp P a w _ Q
  unfold Oper.wp
  rw [h1, Oper.upon_value]
  exact ⟨γ, ω, _, Chg.refl _ _ _ _, h.putO hd (he.rep h2), h3⟩

theorem call_ok (hE : E.Ok P) (hcl : Sound P cl) (h : Rel γ ω w nt st a) {o : Oper} (hd : ∀ t, o.dst = some t → t < nt) {c : Call} (ho : o.op = .call c) {f : Operand} (hcal : c.callee = .value f) {nk : List Nat} {sp : List (Nat × Nat)} (hx : callF E cl nk sp st o.dst o.type f c.args.toList K = some x) (Q : Exit → Act → World → Prop) :
    Opd P nt γ ω w a o K x Q := by
  obtain ⟨callee, args, argTypes⟩ := c
  simp only at hcal hx
  subst hcal
  unfold callF at hx
  split at hx
  · exact absurd hx (by simp)
  rename_i g cs hf
  obtain ⟨vs, hfe, hvl, hvr⟩ := fnOf_ok h hf
  have fin : ∀ {γ1 : List Value} {ω1 : Own}, Chg NotOuter γ ω w γ1 ω1 w → Goes P nt γ1 ω1 w a g (args.toList.map a.eval ++ vs).toArray o.dst K x → Opd P nt γ ω w a o K x Q := by
    intro γ1 ω1 hc ⟨hent, hgo⟩
    show o.wp P a w _ Q
    unfold Oper.wp
    have e' : args.map a.eval = (args.toList.map a.eval).toArray := Array.ext' (by simp)
    have : (execOp a.eval o).run P w = .ok (.enter g (args.toList.map a.eval ++ vs).toArray) w := by
      simp [execOp, ho, resolve, hfe, Deferred.ofValue, invoke, e', hent]
    rw [this, Oper.upon_enter]
    refine hgo.mono ?_
    rintro e w' ⟨v, γ', ω', st', rfl, h1, h2, h3⟩
    exact ⟨γ', ω', st', hc.trans h1, h2, h3⟩
  split at hx
  · rename_i v hv
    split at hx
    · rename_i fp hfp
      split at hx
      · rename_i os hos
        replace hx := sO_some hx
        obtain ⟨st', hst, hx⟩ := hx
        replace hx := sO_some hx
        obtain ⟨ms, hms, hx⟩ := hx
        replace hx := sO_some hx
        obtain ⟨gc, hgc, hx⟩ := hx
        obtain ⟨ω1, hc, hR⟩ := Rel.shrs _ h hst
        obtain ⟨g2, cs2⟩ := gc
        obtain ⟨vs2, hfe2, hvl2, hvr2⟩ := fnOf_ok hR hgc
        rw [hfe] at hfe2
        injection hfe2 with e1 e2 e3
        have e4 : vs2 = vs := by simpa using e3.symm
        subst e4
        obtain ⟨r1, r2⟩ := shvs_rep hR hms
        exact fin hc (objS_ok hcl hR hd hx _ (by have := r1; simp at this; simp [this, hvl2]) (app_get (by simpa using r1) r2 hvr2))
      · exact absurd hx (by simp)
    · exact absurd hx (by simp)
  rename_i hv
  split at hx
  · exact absurd hx (by simp)
  rename_i fp hfp
  have two : ∀ {st' : St} {ms : List MV} {gc : FuncId × List MV}, st.shrs args.toList = st.shrs args.toList → (∃ ω1, Chg NotOuter γ ω w γ ω1 w ∧ Rel γ ω1 w nt st' a) → shvs st' args.toList = some ms → fnOf st' f = some gc → ∀ {os : List OS} {I : List Nat}, objF E cl st' o.dst g fp os I (ms ++ gc.2) K = some x → Opd P nt γ ω w a o K x Q := by
    intro st' ms gc _ ⟨ω1, hc, hR⟩ hms hgc os I hob
    obtain ⟨g2, cs2⟩ := gc
    obtain ⟨vs2, hfe2, hvl2, hvr2⟩ := fnOf_ok hR hgc
    rw [hfe] at hfe2
    injection hfe2 with e1 e2 e3
    have e4 : vs2 = vs := by simpa using e3.symm
    subst e4
    obtain ⟨r1, r2⟩ := shvs_rep hR hms
    exact fin hc (obj_ok hcl hR hd hob _ (by have := r1; simp at this; simp [this, hvl2]) (app_get (by simpa using r1) r2 hvr2))
  split at hx
  · split at hx
    · rename_i hfl
      replace hx := sO_some hx
      obtain ⟨ms, hms, hx⟩ := hx
      replace hx := sO_some hx
      obtain ⟨ms', hms', hx⟩ := hx
      replace hx := npG_some hx
      obtain ⟨hnp, hx⟩ := hx
      replace hx := callE_some hx
      obtain ⟨r, B', hc, hx⟩ := hx
      obtain ⟨r1, r2⟩ := shvs_rep h hms
      exact fin (Chg.refl _ _ _ _) (lend_ok hcl h hfl hms' hnp hc hd hx _ _ r1 hvl r2 hvr)
    · replace hx := sO_some hx
      obtain ⟨st', hst, hx⟩ := hx
      replace hx := sO_some hx
      obtain ⟨ms, hms, hx⟩ := hx
      replace hx := sO_some hx
      obtain ⟨gc, hgc, hx⟩ := hx
      replace hx := npG_some hx
      obtain ⟨hnp, hx⟩ := hx
      replace hx := callE_some hx
      obtain ⟨r, B', hc, hx⟩ := hx
      obtain ⟨ω1, hcg, hR⟩ := Rel.shrs _ h hst
      obtain ⟨g2, cs2⟩ := gc
      obtain ⟨vs2, hfe2, hvl2, hvr2⟩ := fnOf_ok hR hgc
      rw [hfe] at hfe2
      injection hfe2 with e1 e2 e3
      have e4 : vs2 = vs := by simpa using e3.symm
      subst e4
      obtain ⟨r1, r2⟩ := shvs_rep hR hms
      exact fin hcg (plain_ok hcl hR hnp hc hd hx _ (by have := r1; simp at this; simp [this, hvl2]) (app_get (by simpa using r1) r2 hvr2))
  · replace hx := sO_some hx
    obtain ⟨st', hst, hx⟩ := hx
    replace hx := sO_some hx
    obtain ⟨ms, hms, hx⟩ := hx
    replace hx := sO_some hx
    obtain ⟨gc, hgc, hx⟩ := hx
    exact two rfl (Rel.shrs _ h hst) hms hgc hx

theorem does_op {o : Oper} {d : Option Tmp} (hdst : o.dst = d) {s : Sem Value} (hs : (execOp a.eval o).run P w = (s >>= fun v => (pure (Next.value v) : Sem Next)).run P w) (h : Does P nt γ ω w a d s K x) (Q : Exit → Act → World → Prop) : Opd P nt γ ω w a o K x Q := by
  obtain ⟨v, w', hrun, γ', ω', st', h1, h2, h3⟩ := h
  show o.wp P a w _ Q
  unfold Oper.wp
  have : (execOp a.eval o).run P w = .ok (.value v) w' := by rw [hs, Sem.run_bind, hrun]; rfl
  rw [this, Oper.upon_value, hdst]
  exact ⟨γ', ω', st', h1, h2, h3⟩
theorem doesU_op {o : Oper} (hdst : o.dst = none) {s : Sem Unit} (hs : (execOp a.eval o).run P w = (s >>= fun _ => (pure Next.skip : Sem Next)).run P w) (h : DoesU P nt γ ω w a s K x) (Q : Exit → Act → World → Prop) : Opd P nt γ ω w a o K x Q := by
  obtain ⟨w', hrun, γ', ω', st', h1, h2, h3⟩ := h
  show o.wp P a w _ Q
  unfold Oper.wp
  have : (execOp a.eval o).run P w = .ok .skip w' := by rw [hs, Sem.run_bind, hrun]; rfl
  rw [this]
  simp only [Oper.upon, hdst]
  exact ⟨γ', ω', st', h1, h2, h3⟩

theorem op_ok (hE : E.Ok P) (hcl : Sound P cl) (h : Rel γ ω w nt st a) {fp : FnP} {o : Oper} (hx : opF E cl nt fp o st K = some x) (Q : Exit → Act → World → Prop) : Opd P nt γ ω w a o K x Q := by
  unfold opF at hx
  replace hx := dst_some hx
  obtain ⟨hd, hx⟩ := hx
  split at hx
  · rename_i y hop
    split at hx
    · rename_i d hdst
      obtain ⟨γ', ω', st', h1, h2, h3⟩ := asg_ok h (hd d hdst) hx
      show o.wp P a w _ Q
      unfold Oper.wp
      have : (execOp a.eval o).run P w = .ok (.value (a.eval y)) w := by simp [execOp, hop]
      rw [this, Oper.upon_value, hdst]
      exact ⟨γ', ω', st', h1, h2, h3⟩
    · exact absurd hx (by simp)
  · rename_i c hop
    split at hx
    · rename_i f hcal
      exact call_ok hE hcl h hd hop hcal hx Q
    · rename_i hcal
      split at hx
      · rename_i d hdst
        refine does_op hdst ?_ (app_ok hE h (hd d hdst) hx o.type) Q
        obtain ⟨callee, args, argTypes⟩ := c
        simp only at hcal; subst hcal
        simp [execOp, hop, resolve, invoke, builtin]
      · exact absurd hx (by simp)
    · rename_i hcal
      refine does_op rfl ?_ (cpy_ok hE h hd hx o.type) Q
      obtain ⟨callee, args, argTypes⟩ := c
      simp only at hcal; subst hcal
      simp [execOp, hop, resolve, invoke, builtin]
    · rw [← hop] at hx; exact op_pure hE h hd hx Q
  · rename_i T l c hop
    split at hx
    · rename_i d hdst
      exact does_op hdst (by simp [execOp, hop]) (mk_ok hE h (hd d hdst) hx) Q
    · exact absurd hx (by simp)
  · rename_i T len parts hop
    split at hx
    · rename_i d hdst
      exact does_op hdst (by simp [execOp, hop]) (bs_ok hE h (hd d hdst) hx) Q
    · exact absurd hx (by simp)
  · rename_i T parts hop
    obtain ⟨v, hrun, st', h2, h3⟩ := bld_ok hE h hd hx
    exact does_op rfl (s := Instr.build T (parts.map fun x => (x.1, a.eval x.2))) (by simp [execOp, hop]) ⟨v, w, hrun, γ, ω, st', Chg.refl _ _ _ _, h2, h3⟩ Q
  · rename_i T y hop
    refine does_op rfl ?_ (box_ok h hd (T := T) hx) Q
    simp [execOp, hop]
  · rename_i T hop
    split at hx
    · refine does_op rfl ?_ (ara_ok hE h hd hx) Q
      simp [execOp, hop]
    · refine does_op rfl ?_ (alo_ok hE h hd hx) Q
      simp [execOp, hop]
  · rename_i T ad y hop
    split at hx
    · rename_i hdst
      exact doesU_op hdst (by simp [execOp, hop]) (sto_ok hE h hx) Q
    · exact absurd hx (by simp)
  · rename_i T r hop
    split at hx
    · rename_i d hdst
      exact does_op hdst (by simp [execOp, hop]) (mmk_ok hE h (hd d hdst) hx) Q
    · exact absurd hx (by simp)
  · rename_i T m k v hop
    split at hx
    · rename_i hdst
      split at hx
      · exact doesU_op hdst (by simp [execOp, hop]) (mud_ok hE h hx) Q
      · exact doesU_op hdst (by simp [execOp, hop]) (mup_ok hE h hx) Q
    · exact absurd hx (by simp)
  · rename_i s T y hop
    split at hx
    · rename_i e hk
      exact does_op rfl (by simp [execOp, hop]) (str_ok hE h hd hk hx) Q
    · rename_i hk
      split at hx
      · rename_i e hks
        exact does_op rfl (by simp [execOp, hop]) (bst_ok hE h hd hk hks hx) Q
      · rw [← hop] at hx; exact op_pure hE h hd hx Q
    · rw [← hop] at hx; exact op_pure hE h hd hx Q
  · rename_i T y hop
    exact does_op rfl (by simp [execOp, hop]) (mif_ok hE h hd hx) Q
  · rename_i T y i hop
    split at hx
    · rename_i N e hk
      exact does_op rfl (by simp [execOp, hop]) (arx_ok hE h hd hk hx) Q
    · rw [← hop] at hx; exact op_pure hE h hd hx Q
  · rename_i T y lo hi hop
    split at hx
    · rename_i N e hk
      split at hx
      · exact does_op rfl (by simp [execOp, hop]) (ars_ok hE h hd hk hx) Q
      · exact absurd hx (by simp)
    · split at hx
      · rename_i d hdst
        split at hx
        · exact does_op hdst (by simp [execOp, hop]) (trc_ok hE h (hd d hdst) hx) Q
        · rw [← hop] at hx; exact op_pure hE h hd (by rw [hdst] at hx ⊢; exact hx) Q
      · rename_i hdst
        rw [← hop] at hx; exact op_pure hE h hd hx Q
  · rename_i T ad hop
    split at hx
    · rename_i d hdst
      split at hx
      · exact does_op hdst (by simp [execOp, hop]) (lfo_ok hE h (hd d hdst) hx) Q
      · rw [← hop] at hx; exact op_pure hE h hd (by rw [hdst] at hx ⊢; exact hx) Q
    · rename_i hdst
      rw [← hop] at hx; exact op_pure hE h hd hx Q
  · rename_i T m k ok hop
    split at hx
    · rename_i d hdst
      split at hx
      · exact does_op hdst (by simp [execOp, hop]) (lkd_ok hE h (hd d hdst) hx) Q
      · rw [← hop] at hx; exact op_pure hE h hd (by rw [hdst] at hx ⊢; exact hx) Q
    · rename_i hdst
      rw [← hop] at hx; exact op_pure hE h hd hx Q
  · exact op_pure hE h hd hx Q

end
end Go.Pv
