/- The library of this work, part E5: the functions of pure values are right: regions, statements, functions. -/
import Derived.Test.YtoakchnegkmepaaDoorE8
set_option linter.unusedVariables false
set_option linter.unusedSimpArgs false
namespace Go.Pv

section
variable {P : Program} {st : St}
theorem mv_any {K : MV → Prop} {op : BinOp} {T : TypeId} {a b : MV} (h : binP P op T a b K) : ∃ c, K c := by
  unfold binP at h
  split at h
  · split at h
    · exact ⟨_, h.2⟩
    · exact ⟨_, h.2⟩
    · split at h
      · unfold binInt at h
        split at h <;> first | exact ⟨_, h⟩ | exact ⟨_, h.2⟩ | exact h.elim
      · exact h.elim
  · unfold binStr at h
    split at h <;> first | exact ⟨_, h⟩ | exact ⟨_, h.2⟩ | exact h.elim
  all_goals repeat' split at h
  all_goals first | exact h.elim | exact ⟨_, h.2⟩ | exact ⟨_, h⟩ | skip
theorem cut_any {ti : TI} {cs : List MV} {off : Nat} {K : MV → Prop} (h : cutC ti cs off K) : ∃ c, K c := by
  unfold cutC at h
  split at h
  · exact ⟨_, h.2⟩
  · split at h
    · exact ⟨_, h⟩
    · exact h.elim
theorem pure_any {op : Op} {p : Prop} (h : pureP P st op (fun _ => p)) : p := by
  unfold pureP at h
  split at h
  · unfold movP at h
    repeat' split at h
    all_goals first | exact h.elim | exact h | exact h.2
  · unfold binE at h
    repeat' split at h
    all_goals first | exact h.elim | exact h | exact h.2 | skip
    all_goals (obtain ⟨_, hc⟩ := mv_any h.2; exact hc)
  · repeat' split at h
    all_goals first | exact h.elim | exact h | exact h.2
  · unfold unP at h
    repeat' split at h
    all_goals first | exact h.elim | exact h | exact h.2
  · unfold convP at h
    repeat' split at h
    all_goals first | exact h.elim | exact h | exact h.2
  · unfold extP at h
    repeat' split at h
    all_goals first | exact h.elim | exact h | exact h.2
  · unfold loadP at h
    repeat' split at h
    all_goals first | exact h.elim | exact h | exact h.2 | (obtain ⟨_, hc⟩ := cut_any h; exact hc)
  · unfold faP at h
    split at h
    · obtain ⟨_, h⟩ := h
      repeat' split at h
      all_goals first | exact h.elim | exact h | exact h.2
    · exact h.elim
  · unfold fieldP at h
    repeat' split at h
    all_goals first | exact h.elim | (obtain ⟨_, hc⟩ := cut_any h; exact hc)
  · unfold iaP at h
    split at h
    · split at h
      · obtain ⟨_, _, h⟩ := h
        repeat' split at h
        all_goals first | exact h.elim | exact h.2.2 | (obtain ⟨_, _, _, h⟩ := h; exact h)
      · exact h.elim
    · exact h.elim
  · unfold idxP at h
    repeat' split at h
    all_goals first | exact h.elim | exact h.2.2
  · unfold sliceP at h
    repeat' split at h
    all_goals first | exact h.elim | exact h.2.2.2 | exact h.2.2.2.2
  · unfold ncP at h
    repeat' split at h
    all_goals first | exact h.elim | exact h
  · obtain ⟨_, h⟩ := h
    repeat' split at h
    all_goals first | exact h.elim | exact h
  · unfold lenP mmP at h
    repeat' split at h
    all_goals first | exact h.elim | exact h | (obtain ⟨h, _⟩ := h; repeat' split at h) | skip
    all_goals first | exact h.elim | exact h | skip
  · exact h.elim
end

section
variable {E : Env} {P : Program} {nt : Nat} {fz : List Nat} {cl : FuncId → List MV → Bxs → Out}

theorem cond_some {α : Type} {b : Bool} {o o' : Option α} {x : α} (h : cnd b o o' = some x) : (b = true ∧ o = some x) ∨ (b = false ∧ o' = some x) := by
  cases b with
  | true => exact .inl ⟨rfl, h⟩
  | false => exact .inr ⟨rfl, h⟩

/-- A guarded operation. -/
theorem gdP_true {ops : Array Oper} {st : St} {o : Oper} {j : Nat} {want : Bool} {d : Nat} {Q : St → Prop} (hg : o.guard = some (j, want)) (hd : (ops[j]?).bind (·.dst) = some d) (hb : lk st.v d = .sh (.bool want)) (h : opP P nt fz o st Q) : gdP P nt fz ops o st Q := by
  unfold gdP
  rw [hg]
  simp only [hd, hb, if_true]
  exact h
theorem gdP_false {ops : Array Oper} {st : St} {o : Oper} {j : Nat} {want b : Bool} {d : Nat} {Q : St → Prop} (hg : o.guard = some (j, want)) (hd : (ops[j]?).bind (·.dst) = some d) (hb : lk st.v d = .sh (.bool b)) (hne : b ≠ want) (hk : dOk o.dst nt) (h : Q (putO st o.dst (.sh (.tup [])))) : gdP P nt fz ops o st Q := by
  unfold gdP
  rw [hg]
  simp only [hd, hb, if_neg hne]
  exact ⟨hk, h⟩
theorem gdP_undef {ops : Array Oper} {st : St} {o : Oper} {j : Nat} {want : Bool} {d : Nat} {Q : St → Prop} (hg : o.guard = some (j, want)) (hd : (ops[j]?).bind (·.dst) = some d) (hb : lk st.v d = .sh (.tup [])) (hk : dOk o.dst nt) (h : Q (putO st o.dst (.sh (.tup [])))) : gdP P nt fz ops o st Q := by
  unfold gdP
  rw [hg]
  simp only [hd, hb]
  exact ⟨hk, h⟩
theorem gdP_none {ops : Array Oper} {st : St} {o : Oper} {Q : St → Prop} (hg : o.guard = none) (h : opP P nt fz o st Q) : gdP P nt fz ops o st Q := by
  unfold gdP
  rw [hg]; exact h

theorem gs_get {ops : Array Oper} {j d : Nat} (h : (ops.toList.map (·.dst))[j]? = some (some d)) : (ops[j]?).bind (·.dst) = some d := by
  rw [List.getElem?_map] at h
  rw [← Array.getElem?_toList]
  cases hq : ops.toList[j]? with
  | none => rw [hq] at h; simp at h
  | some o => rw [hq] at h; simpa using h

theorem run_fok {α : Type} {x : α} (hE : E.Ok P) (hcl : Sound P cl) {ops : Array Oper} : ∀ (l : List Oper) (i : Nat), ops.toList.drop i = l → ∀ {γ : List Nat} {ω : Own} {w : World} {st : St} {a : Act}, Rel γ ω w nt st a → ∀ {K : St → Option α}, runF E cl nt fz (ops.toList.map (·.dst)) l st K = some x → ∀ (Q : Exit → Act → World → Prop),
    (∀ γ' ω' w' st' a', Chg NotOuter γ ω w γ' ω' w' → Rel γ' ω' w' nt st' a' → K st' = some x → Q .normal a' w') → wpOps P ops Q (List.range' i l.length) a w
  | [], i, hl, γ, ω, w, st, a, h, K, hx, Q, hq => by
    simp only [List.length_nil, List.range'_zero, wpOps]
    exact hq _ _ _ _ _ (Chg.refl _ _ _ _) h hx
  | o :: r, i, hl, γ, ω, w, st, a, h, K, hx, Q, hq => by
    have ho : ops[i]? = some o := by
      have := congrArg (fun l => l[0]?) hl
      simpa [List.getElem?_drop] using this
    have hr : ops.toList.drop (i + 1) = r := by
      rw [← List.drop_drop, hl]; rfl
    simp only [List.length_cons, List.range'_succ]
    -- from a state that is weaker
    have go : ∀ (st0 : St), Wk st st0 → gdP P nt fz ops o st0 (fun st1 => ∃ st2, Wk st1 st2 ∧ runF E cl nt fz (ops.toList.map (·.dst)) r st2 K = some x) → wpOps P ops Q (i :: List.range' (i + 1) r.length) a w := by
      intro st0 hw hg
      obtain ⟨ω0, c0, r0⟩ := hw γ ω w nt a h
      refine step_ok ho r0 hg Q _ (fun γ' ω' w' st' a' h1 h2 h3 => ?_)
      obtain ⟨st2, hw2, hrun⟩ := h3
      obtain ⟨ω2, c2, r2⟩ := hw2 γ' ω' w' nt a' h2
      exact run_fok hE hcl r (i + 1) hr r2 hrun Q (fun γ3 ω3 w3 st3 a3 g1 g2 g3 => hq _ _ _ _ _ (c0.trans (h1.trans (c2.trans g1))) g2 g3)
    have tgt : Tgt true (fun st' => runF E cl nt fz (ops.toList.map (·.dst)) r st' K) x (fun st1 => ∃ st2, Wk st1 st2 ∧ runF E cl nt fz (ops.toList.map (·.dst)) r st2 K = some x) := ⟨fun st' hk => ⟨st', Wk.refl _, hk⟩, fun _ st1 st2 hw hk => ⟨st2, hw, hk⟩⟩
    simp only [runF] at hx
    split at hx
    · rename_i hg
      exact go st (Wk.refl _) (gdP_none hg (op_fok hE hcl tgt hx))
    · rename_i j want hg
      split at hx
      · rename_i d hd
        have hd' := gs_get hd
        split at hx
        · rename_i b hb
          have lit : ∀ v, b = v → lk (st.lit d v).v d = .sh (.bool v) := by
            intro v e; subst e; rw [lk_lit hb]; exact hb
          cases want with
          | true =>
            rcases cond_some hx with ⟨e, hx⟩ | ⟨e, hx⟩
            · subst e; exact go (st.lit d true) (Wk.lit hb) (gdP_true hg hd' (lit true rfl) (op_fok hE hcl tgt hx))
            · subst e
              obtain ⟨hk, hx⟩ := dst_some hx
              exact go (st.lit d false) (Wk.lit hb) (gdP_false hg hd' (lit false rfl) (by simp) hk ⟨_, Wk.refl _, hx⟩)
          | false =>
            rcases cond_some hx with ⟨e, hx⟩ | ⟨e, hx⟩
            · subst e
              obtain ⟨hk, hx⟩ := dst_some hx
              exact go (st.lit d true) (Wk.lit hb) (gdP_false hg hd' (lit true rfl) (by simp) hk ⟨_, Wk.refl _, hx⟩)
            · subst e; exact go (st.lit d false) (Wk.lit hb) (gdP_true hg hd' (lit false rfl) (op_fok hE hcl tgt hx))
        · rename_i hb
          obtain ⟨hk, hx⟩ := dst_some hx
          exact go st (Wk.refl _) (gdP_undef hg hd' hb hk ⟨_, Wk.refl _, hx⟩)
        · exact absurd hx (by simp)
      · exact absurd hx (by simp)

theorem PW.ofRun {α : Type} {x : α} (hE : E.Ok P) (hcl : Sound P cl) {id : Nat} {ops : Array Oper} {st : St} {K : PX → St → Option α} (h : runF E cl nt fz (ops.toList.map (·.dst)) ops.toList st (fun st' => K .normal st') = some x) : PW P nt (.region id ops false) st (fun e s => K e s = some x) := by
  intro γ ω w a R hr hk
  refine wp_region ?_
  have := run_fok hE hcl ops.toList 0 (by simp) hr h R (fun γ' ω' w' st' a' h1 h2 h3 => hk .normal _ _ _ _ _ h1 h2 h3)
  rw [List.range_eq_range']
  simpa using this

/-! ### Open orders -/
theorem eqCt_some {α : Type} {c c' : Ct} {o : Option α} {x : α} (h : eqCt c c' o = some x) : c = c' ∧ o = some x := by
  unfold eqCt at h
  split at h
  · obtain ⟨h1, h⟩ := sB_some h
    rw [mvB_eq _ _ h1]; exact ⟨rfl, h⟩
  · exact absurd h (by simp)

theorem eqNL_eq : ∀ {a b : List Nat}, eqNL a b = true → a = b
  | [], [], _ => rfl
  | [], _ :: _, h => by simp [eqNL] at h
  | _ :: _, [], h => by simp [eqNL] at h
  | a :: r, b :: q, h => by
    simp only [eqNL, Bool.and_eq_true] at h
    rw [beq_nat h.1, eqNL_eq h.2]

theorem drop_hd {ops : Array Oper} {i : Nat} {o : Oper} {r : List Oper} (h : ops.toList.drop i = o :: r) : ops[i]? = some o := drop_get h

theorem stl_fok {α : Type} {x : α} (hE : E.Ok P) {ops : Array Oper} {st : St} {i : Nat} {K : Option α} (h : stlF E nt ops st i K = some x) : Still P nt ops st i ∧ K = some x := by
  unfold stlF at h
  split at h
  · rename_i o q ho
    have ho' := drop_get ho
    split at h
    · rename_i d hd
      obtain ⟨hs, h⟩ := sB_some h
      simp only [Bool.and_eq_true] at hs
      obtain ⟨⟨h1, h2⟩, h3⟩ := hs
      have hdn : d < nt := by simpa using h1
      have hp : pureF E st o.op (fun c => eqCt c (lk st.v d) K) = some x → pureP P st o.op (fun c => c = lk st.v d) ∧ K = some x := by
        intro hx
        refine ⟨pure_fok hE (fun c hc => (eqCt_some hc).1) hx, ?_⟩
        have := pure_fok (Q := fun _ => K = some x) hE (fun c hc => (eqCt_some hc).2) hx
        exact pure_any this
      unfold Still
      rw [ho']
      simp only [hd]
      unfold StillO
      split at h
      · rename_i hg
        obtain ⟨hx1, hx2⟩ := hp h
        have hw : wantP ops st o = some true := by unfold wantP; rw [hg]
        exact ⟨⟨hdn, h2, h3, by rw [hw]; exact hx1⟩, hx2⟩
      · rename_i j want hg
        split at h
        · rename_i e he
          have he' : (ops[j]?).bind (·.dst) = some e := he
          split at h
          · rename_i b hb
            have hw : wantP ops st o = some (b == want) := by
              unfold wantP; rw [hg]; simp only [he', hb]
            have ht : b = want → pureF E st o.op (fun c => eqCt c (lk st.v d) K) = some x → (d < nt ∧ pureK o.op = true ∧ isShD (lk st.v d) = true ∧ (match wantP ops st o with
                | some true => pureP P st o.op (fun c => c = lk st.v d)
                | some false => lk st.v d = .sh (.tup [])
                | none => False)) ∧ K = some x := by
              intro e hx
              obtain ⟨hx1, hx2⟩ := hp hx
              have : (b == want) = true := by simp [e]
              exact ⟨⟨hdn, h2, h3, by rw [hw, this]; exact hx1⟩, hx2⟩
            have hf : b ≠ want → eqCt (.sh (.tup [])) (lk st.v d) K = some x → (d < nt ∧ pureK o.op = true ∧ isShD (lk st.v d) = true ∧ (match wantP ops st o with
                | some true => pureP P st o.op (fun c => c = lk st.v d)
                | some false => lk st.v d = .sh (.tup [])
                | none => False)) ∧ K = some x := by
              intro e hx
              obtain ⟨hx1, hx2⟩ := eqCt_some hx
              have : (b == want) = false := by cases b <;> cases want <;> first | rfl | exact absurd rfl e
              exact ⟨⟨hdn, h2, h3, by rw [hw, this]; exact hx1.symm⟩, hx2⟩
            cases want with
            | true =>
              rcases cond_some h with ⟨e, h⟩ | ⟨e, h⟩
              · exact ht e h
              · exact hf (by rw [e]; simp) h
            | false =>
              rcases cond_some h with ⟨e, h⟩ | ⟨e, h⟩
              · exact hf (by rw [e]; simp) h
              · exact ht e h
          · rename_i hb
            have hw : wantP ops st o = some false := by
              unfold wantP; rw [hg]; simp only [he', hb]
            obtain ⟨hx1, hx2⟩ := eqCt_some h
            exact ⟨⟨hdn, h2, h3, by rw [hw]; exact hx1.symm⟩, hx2⟩
          · exact absurd h (by simp)
        · exact absurd h (by simp)
    · exact absurd h (by simp)
  · exact absurd h (by simp)

theorem stls_fok {α : Type} {x : α} (hE : E.Ok P) {ops : Array Oper} {st : St} : ∀ {l : List Nat} {K : Option α}, stlsF E nt ops st l K = some x → stillAll P nt ops st l ∧ K = some x
  | [], K, h => ⟨trivial, h⟩
  | i :: r, K, h => by
    obtain ⟨h1, h2⟩ := stl_fok hE (K := stlsF E nt ops st r K) h
    obtain ⟨h3, h4⟩ := stls_fok hE h2
    exact ⟨⟨h1, h3⟩, h4⟩

theorem one_fok {α : Type} {x : α} (hE : E.Ok P) (hcl : Sound P cl) {ops : Array Oper} {o : Oper} {st : St} {K : St → Option α} {Q : St → Prop} (hQ : ∀ st', K st' = some x → Q st') (h : oneF E cl nt fz ops o st K = some x) : gdP P nt fz ops o st Q := by
  have tgt : Tgt false K x Q := ⟨hQ, fun e => absurd e (by simp)⟩
  unfold oneF at h
  split at h
  · rename_i hg
    exact gdP_none hg (op_fok hE hcl tgt h)
  · rename_i j want hg
    split at h
    · rename_i e he
      have he' : (ops[j]?).bind (·.dst) = some e := he
      split at h
      · rename_i b hb
        cases want with
        | true =>
          rcases cond_some h with ⟨e, h⟩ | ⟨e, h⟩
          · subst e; exact gdP_true hg he' hb (op_fok hE hcl tgt h)
          · subst e
            obtain ⟨hk, h⟩ := dst_some h
            exact gdP_false hg he' hb (by simp) hk (hQ _ h)
        | false =>
          rcases cond_some h with ⟨e, h⟩ | ⟨e, h⟩
          · subst e
            obtain ⟨hk, h⟩ := dst_some h
            exact gdP_false hg he' hb (by simp) hk (hQ _ h)
          · subst e; exact gdP_true hg he' hb (op_fok hE hcl tgt h)
      · rename_i hb
        obtain ⟨hk, h⟩ := dst_some h
        exact gdP_undef hg he' hb hk (hQ _ h)
      · exact absurd h (by simp)
    · exact absurd h (by simp)

theorem noStr_ok (hE : E.Ok P) {op : Op} (h : noStrE E op = true) : noStr P op = true := by
  unfold noStrE at h
  unfold noStr
  split at h
  · rename_i s T y
    simp only
    split at h
    · exact absurd h (by simp)
    · exact absurd h (by simp)
    · rename_i h1 h2
      rw [kdE_ok hE (T := T) rfl (fun e => h2 e)]
      split
      · rename_i e he; exact (h1 e he).elim
      · rfl
  · rename_i hno
    split
    · rename_i s T y; exact (hno s T y rfl).elim
    · rfl

theorem eqO_some {o o' : Out} {x : Res × Bxs} (h : eqO o o' = some x) : o = some x ∧ o' = some x := by
  have bx : ∀ (a b : Bxs), bxB a b = true → a = b := by
    intro a
    induction a with
    | nil => intro b hb; cases b <;> simp [bxB] at hb; rfl
    | cons c r ih =>
      intro b hb
      cases b with
      | nil => cases c <;> simp [bxB] at hb
      | cons d q =>
        cases c with
        | none => simp [bxB] at hb
        | some cs =>
          cases d with
          | none => simp [bxB] at hb
          | some ds =>
            simp only [bxB] at hb
            split at hb
            · rename_i l k h1 h2
              rw [Bool.and_eq_true] at hb
              rw [shsM_map h1, shsM_map h2, mvBL_eq _ _ hb.1, ih _ hb.2]
            · exact absurd hb (by simp)
  unfold eqO at h
  split at h
  · rename_i r B r' B'
    obtain ⟨h1, h9⟩ := sB_some h
    clear h
    have h := h9
    simp only [Bool.and_eq_true, decide_eq_true_eq] at h1
    obtain ⟨h2, h3, h4⟩ := h1
    have e2 := bx _ _ h4
    subst e2
    have e1 : r = r' := by
      have h5 := mvBL_eq _ _ h2
      clear h h9 h2 h4
      induction r generalizing r' with
      | nil => cases r' <;> simp at h3 ⊢
      | cons a q ih =>
        cases r' with
        | nil => simp at h3
        | cons b q' =>
          simp only [List.map_cons, List.cons.injEq] at h3 h5
          rw [ih q' h3.2 h5.2]
          congr 1
          exact Prod.ext h3.1 h5.1
    subst e1
    exact ⟨h, h⟩
  · exact absurd h (by simp)

theorem early_fok {α : Type} {x : α} (hE : E.Ok P) {ops : Array Oper} {rg : Bool} {o : Oper} {i : Nat} {d : Nat} {st : St} {K : Ct → Option α} (hreg : regOk ops = true) (ho : ops[i]? = some o) (hd : o.dst = some d) (hpk : pureK o.op = true) (hself : d ∉ o.looksAt ops) (h : earlyF E nt ops rg o st K = some x)
    {γ : List Nat} {ω : Own} {w : World} {y : Act} (hr : Rel γ ω w nt st y) : d < nt ∧ ∃ c v, Rel γ ω w nt (st.put d c) (y.put (some d) v) ∧ K c = some x ∧ (rg = true → RegV P ops (y.put (some d) v) i) := by
  have wput : ∀ v, Region.wanted o (yielded ops (y.put (some d) v).tmps) = Region.wanted o (yielded ops y.tmps) := fun v => wanted_put (ops := ops) o y (some d) v (fun d' q => by injection q with q; subst q; exact hself)
  have eput : ∀ v, execOp (y.put (some d) v).eval o = execOp y.eval o := fun v => execOp_put (ops := ops) o (regOk_get hreg ho).2.1 y (some d) v (fun d' q => by injection q with q; subst q; exact hself)
  have hsz : ∀ v, d < nt → (y.put (some d) v).tmps[d]? = some v := fun v hdn => by
    simp only [Act.put]; rw [Array.getElem?_setIfInBounds_self, if_pos (by rw [hr.size]; exact hdn)]
  have run : wantP ops st o = some true → sB (!rg || regK E st o.op) (dstF o.dst nt (pureF E st o.op K)) = some x → d < nt ∧ ∃ c v, Rel γ ω w nt (st.put d c) (y.put (some d) v) ∧ K c = some x ∧ (rg = true → RegV P ops (y.put (some d) v) i) := by
    intro hw hx
    obtain ⟨h1, hx⟩ := sB_some hx
    obtain ⟨hk, hx⟩ := dst_some hx
    rw [hd] at hk
    have hdn : d < nt := hk
    have hp := pure_fok (Q := fun c => K c = some x) hE (fun c hc => hc) hx
    refine ⟨hdn, ?_⟩
    have hwt := want_ok hr hw
    cases rg with
    | false =>
      obtain ⟨c, v, q1, q2, q3⟩ := pure_ok hr hp
      exact ⟨c, v, hr.put hdn (q2 _), q3, fun e => by simp at e⟩
    | true =>
      obtain ⟨c, v, q1, q2, q3⟩ := reg_ok hE hr (by simpa using h1) hp
      refine ⟨c, v, hr.put hdn (q2 _), q3, fun _ => ⟨o, d, v, ho, hd, hpk, hsz v hdn, fun _ w' => ?_, fun q => ?_⟩⟩
      · rw [eput]; exact q1 w'
      · rw [wput, hwt] at q; simp at q
  have skip : wantP ops st o = some false → dstF o.dst nt (K (.sh (.tup []))) = some x → d < nt ∧ ∃ c v, Rel γ ω w nt (st.put d c) (y.put (some d) v) ∧ K c = some x ∧ (rg = true → RegV P ops (y.put (some d) v) i) := by
    intro hw hx
    obtain ⟨hk, hx⟩ := dst_some hx
    rw [hd] at hk
    have hdn : d < nt := hk
    have hwt := want_ok hr hw
    refine ⟨hdn, .sh (.tup []), undef, hr.put hdn rep_undef, hx, fun _ => ⟨o, d, undef, ho, hd, hpk, hsz undef hdn, fun q w' => ?_, fun _ => rfl⟩⟩
    rw [wput, hwt] at q; simp at q
  unfold earlyF at h
  split at h
  · rename_i hg
    exact run (by unfold wantP; rw [hg]) h
  · rename_i j want hg
    split at h
    · rename_i e he
      have he' : (ops[j]?).bind (·.dst) = some e := he
      split at h
      · rename_i b hb
        have hw : wantP ops st o = some (b == want) := by unfold wantP; rw [hg]; simp only [he', hb]
        cases want with
        | true =>
          rcases cond_some h with ⟨e, h⟩ | ⟨e, h⟩
          · exact run (by rw [hw, e]; rfl) h
          · exact skip (by rw [hw, e]; rfl) h
        | false =>
          rcases cond_some h with ⟨e, h⟩ | ⟨e, h⟩
          · exact skip (by rw [hw, e]; rfl) h
          · exact run (by rw [hw, e]; rfl) h
      · rename_i hb
        exact skip (by unfold wantP; rw [hg]; simp only [he', hb]) h
      · exact absurd h (by simp)
    · exact absurd h (by simp)

theorem okReg_ok {ops : Array Oper} {S R : List Nat} {i : Nat} {o : Oper} {d : Nat} (ho : ops[i]? = some o) (hd : o.dst = some d) (h : okReg ops S R i = true) :
    pureK o.op = true ∧ (∀ j ∈ i :: (S ++ R), ∀ oj, ops[j]? = some oj → d ∉ oj.looksAt ops) ∧ (∀ j ∈ S ++ R, dstN ops j ≠ some d) ∧ (∀ j ∈ S, ∀ e, dstN ops j = some e → e ∉ o.looksAt ops) := by
  simp only [okReg, ho, hd, Bool.and_eq_true] at h
  obtain ⟨⟨⟨h1, h2⟩, h3⟩, h4⟩ := h
  refine ⟨h1, fun j hj oj hoj hm => ?_, fun j hj => ?_, fun j hj e he hm => ?_⟩
  · have := List.all_eq_true.1 h2 j hj
    simp only [hoj, Bool.not_eq_true'] at this
    rw [List.contains_iff_mem.2 hm] at this; simp at this
  · have := List.all_eq_true.1 h3 j hj
    simpa using this
  · have := List.all_eq_true.1 h4 j hj
    simp only [he, Bool.not_eq_true'] at this
    rw [List.contains_iff_mem.2 hm] at this; simp at this
theorem okLod_ok {ops : Array Oper} {S R : List Nat} {i : Nat} {o : Oper} {d : Nat} (ho : ops[i]? = some o) (hd : o.dst = some d) (h : okLod ops S R i = true) :
    pureK o.op = true ∧ (∀ j ∈ i :: (S ++ R), ∀ oj, ops[j]? = some oj → d ∉ oj.looksAt ops) ∧ (∀ j ∈ S ++ R, dstN ops j ≠ some d) := by
  simp only [okLod, ho, hd, Bool.and_eq_true] at h
  obtain ⟨⟨h1, h2⟩, h3⟩ := h
  refine ⟨h1, fun j hj oj hoj hm => ?_, fun j hj => ?_⟩
  · have := List.all_eq_true.1 h2 j hj
    simp only [hoj, Bool.not_eq_true'] at this
    rw [List.contains_iff_mem.2 hm] at this; simp at this
  · have := List.all_eq_true.1 h3 j hj
    simpa using this

theorem lk_put_self {st : St} {d : Nat} {c : Ct} (hc : isShD c = true) : isShD (lk (st.put d c).v d) = true := by
  show isShD (lk (pt _ d _) d) = true
  rw [lk_pt, if_pos rfl]
  split
  · rfl
  · exact hc

theorem memN_false {L : List Nat} {i : Nat} (h : memN L i = false) : i ∉ L := fun hm => by
  rw [memN_iff.2 hm] at h; simp at h

theorem lit_fok {α : Type} {x : α} {ops : Array Oper} {o : Oper} {st : St} {F : St → Option α} (h : litF ops o st F = some x) : ∃ st', Ext st st' ∧ F st' = some x := by
  unfold litF at h
  split at h
  · exact ⟨st, ⟨rfl, fun _ => rfl⟩, h⟩
  · split at h
    · rename_i e he
      split at h
      · rename_i b hb
        rcases cond_some h with ⟨q, h⟩ | ⟨q, h⟩
        · subst q; exact ⟨st.lit e true, ⟨rfl, lk_lit hb⟩, h⟩
        · subst q; exact ⟨st.lit e false, ⟨rfl, lk_lit hb⟩, h⟩
      · exact ⟨st, ⟨rfl, fun _ => rfl⟩, h⟩
    · exact ⟨st, ⟨rfl, fun _ => rfl⟩, h⟩

/-- An open order's next step. -/
def DrX (P : Program) (nt : Nat) (fz : List Nat) (ops : Array Oper) (L S R : List Nat) (st : St) (K : St → Prop) (j : Nat) : Prop :=
  ∃ o, ops[j]? = some o ∧ okOne ops o (restOf ops R j) = true ∧ gdP P nt fz ops o st (fun st' => stillAll P nt ops st' (restOf ops S j) ∧ DrV P nt fz ops (j :: L) (restOf ops S j) (restOf ops R j) st' K)

theorem apt_rest {ops : Array Oper} {S R : List Nat} (h : Apt ops S R) (j : Nat) : Apt ops (restOf ops S j) (restOf ops R j) := by
  have hback : ∀ (T : List Nat), ∀ i ∈ restOf ops T j, i ∈ T := fun T i hi => by
    unfold restOf at hi
    split at hi
    · exact (List.mem_filter.1 hi).1
    · exact hi
  exact h.sub (hback S) (hback R)

mutual
theorem drw_fok {x : Res × Bxs} (hE : E.Ok P) (hcl : Sound P cl) {ops : Array Oper} (hreg : regOk ops = true) : ∀ (sc : Sd) (L S R : List Nat) (st : St) (K : St → Out), Apt ops S R → drwF E cl nt fz ops sc L S R st K = some x → DrV P nt fz ops L S R st (fun st' => K st' = some x)
  | .fin, L, S, R, st, K, hapt, h => by
    obtain ⟨h1, h⟩ := sB_some h
    exact DrV.done hreg (fun i hi => memN_iff.1 (List.all_eq_true.1 h1 i (List.mem_range.2 hi))) h
  | .reg i r, L, S, R, st, K, hapt, h => by
    simp only [drwF] at h
    split at h
    · rename_i o q ho
      have ho' := drop_get ho
      split at h
      · rename_i d hd
        obtain ⟨h1, h⟩ := sB_some h
        rw [Bool.and_eq_true, Bool.not_eq_true'] at h1
        obtain ⟨st1, hext, h⟩ := lit_fok h
        refine DrV.ext hext ?_
        clear hext
        generalize st1 = st at h
        obtain ⟨g1, g2, g3, g4⟩ := okReg_ok ho' hd h1.2
        have hdi : dstN ops i = some d := by simp [dstN, ho', hd]
        have hiS : i ∉ S := fun hh => g3 i (List.mem_append_left _ hh) hdi
        have hself : d ∉ o.looksAt ops := g2 i (by simp) o ho'
        have hapt2 : Apt ops S (i :: R) := ⟨fun a ha j hj oa e hoa he => by
            rcases List.mem_cons.1 ha with q | q
            · subst q; rw [ho'] at hoa; injection hoa with hoa; subst hoa; exact g4 j hj e he
            · exact hapt.1 a q j hj oa e hoa he,
          fun a ha j hj e he => by
            rcases List.mem_cons.1 ha with q | q
            · subst q; rw [hdi] at he; injection he with he; subst he; exact g3 j (List.mem_append_left _ hj)
            · exact hapt.2 a q j hj e he⟩
        have hdn : d < nt ∨ ¬ ∃ (γ : List Nat) (ω : Own) (w : World) (y : Act), Rel γ ω w nt st y := by
          rcases Classical.em (∃ (γ : List Nat) (ω : Own) (w : World) (y : Act), Rel γ ω w nt st y) with ⟨γ, ω, w, y, hr⟩ | hn
          · exact .inl (early_fok hE hreg ho' hd g1 hself h hr).1
          · exact .inr hn
        rcases hdn with hdn | hn
        · refine DrV.early (S' := S) (R' := i :: R) hreg i ho' hd (memN_false h1.1) hdn (fun j hj => hj) (fun j hj => List.mem_cons_of_mem _ hj) (.inr (by simp)) hapt2 (fun j hj => List.mem_cons.1 hj) (fun _ => hiS) (fun j hj oj hoj => g2 j (by simp [hj]) oj hoj) (fun j hj => g3 j (List.mem_append_right _ hj)) (fun {γ ω w y} hr _ => ?_)
          obtain ⟨_, c, v, q1, q2, q3⟩ := early_fok hE hreg ho' hd g1 hself h hr
          obtain ⟨hct, q2⟩ := sB_some q2
          refine ⟨c, v, q1, fun _ => q3 rfl, fun hh => absurd (by simp) hh, fun j hj hne hs => ?_, drw_fok hE hcl hreg r (i :: L) S (i :: R) _ K hapt2 q2⟩
          have hct2 : isShD (lk st.v d) = true ∧ isShD c = true := by
            cases S with
            | nil => simp at hj
            | cons a b => simpa [ctOk] using hct
          exact still_put (i := i) (o := o) hs (fun oj hoj => g2 j (by simp [hj]) oj hoj) (g3 j (List.mem_append_left _ hj)) hct2.1 (lk_put_self hct2.2)
        · intro γ ω w y a D listed fuel Q hI hDL hDS hW hun hr
          exact (hn ⟨γ, ω, w, y, hr⟩).elim
      · exact absurd h (by simp)
    · exact absurd h (by simp)
  | .take i r, L, S, R, st, K, hapt, h => by
    simp only [drwF] at h
    split at h
    · rename_i o q ho
      have ho' := drop_get ho
      split at h
      · rename_i d hd
        obtain ⟨h1, h⟩ := sB_some h
        rw [Bool.and_eq_true, Bool.not_eq_true'] at h1
        obtain ⟨st1, hext, h⟩ := lit_fok h
        refine DrV.ext hext ?_
        clear hext
        generalize st1 = st at h
        obtain ⟨g1, g2, g3⟩ := okLod_ok ho' hd h1.2
        have hdi : dstN ops i = some d := by simp [dstN, ho', hd]
        have hiR : i ∉ R := fun hh => g3 i (List.mem_append_right _ hh) hdi
        have hself : d ∉ o.looksAt ops := g2 i (by simp) o ho'
        have hapt2 : Apt ops (i :: S) R := ⟨fun a ha j hj oa e hoa he => by
            rcases List.mem_cons.1 hj with q | q
            · subst q; rw [hdi] at he; injection he with he; subst he; exact g2 a (by simp [ha]) oa hoa
            · exact hapt.1 a ha j q oa e hoa he,
          fun a ha j hj e he => by
            rcases List.mem_cons.1 hj with q | q
            · subst q; rw [hdi]; intro q2; injection q2 with q2; subst q2; exact g3 a (List.mem_append_right _ ha) he
            · exact hapt.2 a ha j q e he⟩
        have hdn : d < nt ∨ ¬ ∃ (γ : List Nat) (ω : Own) (w : World) (y : Act), Rel γ ω w nt st y := by
          rcases Classical.em (∃ (γ : List Nat) (ω : Own) (w : World) (y : Act), Rel γ ω w nt st y) with ⟨γ, ω, w, y, hr⟩ | hn
          · exact .inl (early_fok hE hreg ho' hd g1 hself h hr).1
          · exact .inr hn
        rcases hdn with hdn | hn
        · refine DrV.early (S' := i :: S) (R' := R) hreg i ho' hd (memN_false h1.1) hdn (fun j hj => List.mem_cons_of_mem _ hj) (fun j hj => hj) (.inl (by simp)) hapt2 (fun j hj => .inr hj) (fun hh => absurd hh hiR) (fun j hj oj hoj => g2 j (by simp [hj]) oj hoj) (fun j hj => g3 j (List.mem_append_right _ hj)) (fun {γ ω w y} hr _ => ?_)
          obtain ⟨_, c, v, q1, q2, q3⟩ := early_fok hE hreg ho' hd g1 hself h hr
          obtain ⟨hct, q2⟩ := sB_some q2
          rw [Bool.and_eq_true] at hct
          obtain ⟨q4, q5⟩ := stl_fok hE q2
          refine ⟨c, v, q1, fun hh => absurd hh hiR, fun _ => q4, fun j hj hne hs => ?_, drw_fok hE hcl hreg r (i :: L) (i :: S) R _ K hapt2 q5⟩
          exact still_put (i := i) (o := o) hs (fun oj hoj => g2 j (by simp [hj]) oj hoj) (g3 j (List.mem_append_left _ hj)) hct.1 (lk_put_self hct.2)
        · intro γ ω w y a D listed fuel Q hI hDL hDS hW hun hr
          exact (hn ⟨γ, ω, w, y, hr⟩).elim
      · exact absurd h (by simp)
    · exact absurd h (by simp)
  | .one j S' R' r, L, S, R, st, K, hapt, h => by
    simp only [drwF] at h
    split at h
    · rename_i o q ho
      obtain ⟨h1, h⟩ := sB_some h
      simp only [Bool.and_eq_true] at h1
      obtain ⟨⟨⟨h2, h3⟩, h4⟩, h5⟩ := h1
      have e3 := eqNL_eq h3
      have e4 := eqNL_eq h4
      obtain ⟨st1, hext, h⟩ := lit_fok h
      refine DrV.ext hext ?_
      clear hext
      generalize st1 = st at h
      refine DrV.all hreg (eqNL_eq h2) (by simp) (fun k hk => ?_)
      simp only [List.mem_singleton] at hk
      subst hk
      refine ⟨o, drop_get ho, by rw [e4]; exact h5, one_fok hE hcl (fun st' hs => ?_) h⟩
      obtain ⟨g1, g2⟩ := stls_fok hE hs
      rw [e3, e4]
      exact ⟨g1, drw_fok hE hcl hreg r (k :: L) S' R' st' K (by rw [← e3, ← e4]; exact apt_rest hapt k) g2⟩
    · exact absurd h (by simp)
  | .two j S' R' r m, L, S, R, st, K, hapt, h => by
    simp only [drwF] at h
    split at h
    · rename_i o q ho
      obtain ⟨h1, h⟩ := sB_some h
      simp only [Bool.and_eq_true] at h1
      obtain ⟨⟨⟨h2, h3⟩, h4⟩, h5⟩ := h1
      have e3 := eqNL_eq h3
      have e4 := eqNL_eq h4
      obtain ⟨h6, h7⟩ := eqO_some h
      refine DrV.all hreg (eqNL_eq h2) (by simp [altsD]) (fun k hk => ?_)
      rcases List.mem_cons.1 hk with e | e
      · subst e
        refine ⟨o, drop_get ho, by rw [e4]; exact h5, one_fok hE hcl (fun st' hs => ?_) h6⟩
        obtain ⟨g1, g2⟩ := stls_fok hE hs
        rw [e3, e4]
        exact ⟨g1, drw_fok hE hcl hreg r (k :: L) S' R' st' K (by rw [← e3, ← e4]; exact apt_rest hapt k) g2⟩
      · exact alt_fok hE hcl hreg m L S R st K hapt h7 k e
    · exact absurd h (by simp)
theorem alt_fok {x : Res × Bxs} (hE : E.Ok P) (hcl : Sound P cl) {ops : Array Oper} (hreg : regOk ops = true) : ∀ (sc : Sd) (L S R : List Nat) (st : St) (K : St → Out), Apt ops S R → drwF.altF E cl nt fz ops sc L S R st K = some x → ∀ k ∈ altsD sc, DrX P nt fz ops L S R st (fun st' => K st' = some x) k
  | .fin, L, S, R, st, K, hapt, h => by intro k hk; simp [altsD] at hk
  | .reg i r, L, S, R, st, K, hapt, h => by intro k hk; simp [altsD] at hk
  | .take i r, L, S, R, st, K, hapt, h => by intro k hk; simp [altsD] at hk
  | .one j S' R' r, L, S, R, st, K, hapt, h => by
    simp only [drwF.altF] at h
    split at h
    · rename_i o q ho
      obtain ⟨h1, h⟩ := sB_some h
      simp only [Bool.and_eq_true] at h1
      obtain ⟨⟨h3, h4⟩, h5⟩ := h1
      have e3 := eqNL_eq h3
      have e4 := eqNL_eq h4
      intro k hk
      simp only [altsD, List.mem_singleton] at hk
      subst hk
      refine ⟨o, drop_get ho, by rw [e4]; exact h5, one_fok hE hcl (fun st' hs => ?_) h⟩
      obtain ⟨g1, g2⟩ := stls_fok hE hs
      rw [e3, e4]
      exact ⟨g1, drw_fok hE hcl hreg r (k :: L) S' R' st' K (by rw [← e3, ← e4]; exact apt_rest hapt k) g2⟩
    · exact absurd h (by simp)
  | .two j S' R' r m, L, S, R, st, K, hapt, h => by
    simp only [drwF.altF] at h
    split at h
    · rename_i o q ho
      obtain ⟨h1, h⟩ := sB_some h
      simp only [Bool.and_eq_true] at h1
      obtain ⟨⟨h3, h4⟩, h5⟩ := h1
      have e3 := eqNL_eq h3
      have e4 := eqNL_eq h4
      obtain ⟨h6, h7⟩ := eqO_some h
      intro k hk
      rcases List.mem_cons.1 hk with e | e
      · subst e
        refine ⟨o, drop_get ho, by rw [e4]; exact h5, one_fok hE hcl (fun st' hs => ?_) h6⟩
        obtain ⟨g1, g2⟩ := stls_fok hE hs
        rw [e3, e4]
        exact ⟨g1, drw_fok hE hcl hreg r (k :: L) S' R' st' K (by rw [← e3, ← e4]; exact apt_rest hapt k) g2⟩
      · exact alt_fok hE hcl hreg m L S R st K hapt h7 k e
    · exact absurd h (by simp)
end

/-! ### Statements -/
theorem itr_fok {x : Res × Bxs} {body : St → (PX → St → Out) → Out} {kp : List Nat} {c : Code}
    (hb : ∀ (st : St) (K : PX → St → Out), body st K = some x → PW P nt c st (fun e s => K e s = some x)) : ∀ (n : Nat) (st : St) (K : PX → St → Out), itr body kp n st K = some x → PW P nt (.loop c) st (fun e s => K e s = some x) := by
  intro n st K h
  refine PW.loop (σ := Nat) (fun k st' => ∃ st2, Wk st' st2 ∧ itr body kp k st2 K = some x) id n ⟨st, Wk.refl _, h⟩ (fun k st' hk => ?_)
  obtain ⟨st2, hw, hk⟩ := hk
  cases k with
  | zero => exact absurd hk (by simp [itr])
  | succ k =>
    simp only [itr] at hk
    refine PW.wk hw ((hb st2 _ hk).mono (fun e s he => ?_))
    cases e with
    | normal => exact ⟨k, ⟨s.norm kp, Wk.norm _ _, he⟩, Nat.lt_succ_self k⟩
    | exit id => exact he
    | ret => exact he

theorem exec_fok {x : Res × Bxs} (hE : E.Ok P) (hcl : Sound P cl) : ∀ (pl : Pl) (c : Code) (st : St) (K : PX → St → Out), exec E cl nt fz pl c st K = some x → PW P nt c st (fun e s => K e s = some x)
  | .leaf, c, st, K, h => by
    cases c with
    | skip => exact PW.skip h
    | label l => exact PW.label h
    | exit id => exact PW.exit h
    | ret => exact PW.ret h
    | region id ops d =>
      cases d with
      | false => exact PW.ofRun hE hcl h
      | true => exact absurd h (by simp [exec])
    | _ => exact absurd h (by simp [exec])
  | .draw s, c, st, K, h => by
    cases c with
    | region id ops d =>
      cases d with
      | false => exact absurd h (by simp [exec])
      | true =>
        obtain ⟨hreg, h⟩ := sB_some (show sB (regOk ops) _ = some x from h)
        exact PW.dregV fz hE.mx hreg (drw_fok hE hcl hreg s [] [] [] st _ (by simp [Apt]) h)
    | _ => exact absurd h (by simp [exec])
  | .seq p k q, c, st, K, h => by
    cases c with
    | seq a b =>
      refine PW.seq (fun K1 hK => ?_)
      refine (exec_fok hE hcl p a st _ h).mono (fun e s he => ?_)
      cases e with
      | normal => exact hK s (PW.wk (Wk.norm s k) (exec_fok hE hcl q b (s.norm k) K he))
      | exit id => exact he
      | ret => exact he
    | _ => exact absurd h (by simp [exec])
  | .cond k p q, c, st, K, h => by
    cases c with
    | cond t a b =>
      cases t with
      | tmp t =>
        simp only [exec] at h
        split at h
        · rename_i v hv
          rcases cond_some h with ⟨e, h⟩ | ⟨e, h⟩
          · exact PW.cond hv (fun _ => PW.wk (Wk.norm st k) (exec_fok hE hcl p a _ K h)) (fun e2 => by rw [e] at e2; simp at e2)
          · exact PW.cond hv (fun e2 => by rw [e] at e2; simp at e2) (fun _ => PW.wk (Wk.norm st k) (exec_fok hE hcl q b _ K h))
        · exact absurd h (by simp)
      | _ => exact absurd h (by simp [exec])
    | _ => exact absurd h (by simp [exec])
  | .one p, c, st, K, h => by
    cases c with
    | block id c =>
      refine PW.block ((exec_fok hE hcl p c st _ h).mono (fun e s he => ?_))
      cases e with
      | normal => exact he
      | ret => exact he
      | exit id' =>
        simp only [blkK] at he
        simp only [blkQ]
        split at he
        · rename_i e; rw [if_pos (beq_nat e)]; exact he
        · rename_i e; rw [if_neg (fun q => by subst q; simp at e)]; exact he
    | _ => exact absurd h (by simp [exec])
  | .loop k p, c, st, K, h => by
    cases c with
    | loop c => exact PW.wk (Wk.norm st k) (itr_fok (fun st K h => exec_fok hE hcl p c st K h) E.fu _ K h)
    | _ => exact absurd h (by simp [exec])
  | .frz t p, c, st, K, h => by
    have h : (match lk st.v t with
      | .sh (.ptr k 0) => match st.B[k]? with
        | some (some cs) => sO (shsM cs) fun ms => exec E cl nt fz p c ⟨pt st.v t (.sh (.cptr ms 0)), st.B.set k none⟩ K
        | _ => none
      | _ => none) = some x := by cases c <;> exact h
    split at h
    · rename_i k hk
      split at h
      · rename_i cs hc
        obtain ⟨ms, hms, h⟩ := sO_some h
        exact PW.freeze k t hk hc (by rw [shsM_map hms]; exact shs_map ms) (exec_fok hE hcl p c _ K h)
      · exact absurd h (by simp)
    · exact absurd h (by simp)
  | .shr ts p, c, st, K, h => by
    have h : exec E cl nt fz p c (retOs st (ts.map .tmp)) K = some x := by cases c <;> exact h
    exact PW.wk (Wk.retOs _ st) (exec_fok hE hcl p c _ K h)
  | .cut p, c, st, K, h => by
    have h : exec E cl nt fz p c st K = some x := by cases c <;> exact h
    exact exec_fok hE hcl p c st K h

/-! ### Functions -/
theorem res_fok {x : Res × Bxs} (hE : E.Ok P) {st : St} : ∀ {rs : List ResultVar} {sg : List (Option Nat × Sh)} {K : Res → Out}, resF E st rs sg K = some x → ∃ r, resP P st rs r ∧ K r = some x ∧ r.map (·.1) = sg.map (·.1)
  | [], [], K, h => ⟨[], trivial, h, rfl⟩
  | .tmp s :: rs, (ow, sh) :: q, K, h => by
    simp only [resF] at h
    cases ow with
    | none =>
      simp only at h
      split at h
      · rename_i m hm
        obtain ⟨r, h1, h2, h3⟩ := res_fok hE (K := fun l => K ((none, m.top) :: l)) h
        exact ⟨(none, m.top) :: r, ⟨by rw [hm]; exact .inr rfl, h1⟩, h2, by simp [h3]⟩
      · exact absurd h (by simp)
    | some sz =>
      simp only at h
      split at h
      · rename_i sz' m hm
        obtain ⟨hz, h⟩ := sB_some h
        obtain ⟨r, h1, h2, h3⟩ := res_fok hE (K := fun l => K ((some sz, m) :: l)) h
        exact ⟨(some sz, m) :: r, ⟨by rw [hm]; exact ⟨(beq_nat hz).symm, rfl⟩, h1⟩, h2, by simp [h3]⟩
      · rename_i hm
        obtain ⟨r, h1, h2, h3⟩ := res_fok hE (K := fun l => K ((some sz, .list []) :: l)) h
        exact ⟨(some sz, .list []) :: r, ⟨by rw [hm]; trivial, h1⟩, h2, by simp [h3]⟩
      · exact absurd h (by simp)
  | .cell s T :: rs, (none, sh) :: q, K, h => by
    simp only [resF] at h
    obtain ⟨c, hc, h⟩ := sO_some h
    have h1 := load_fok (K := some) (Q := fun c' => c' = c) hE (fun c' hc' => by injection hc') hc
    split at h
    · rename_i m
      obtain ⟨r, g1, g2, g3⟩ := res_fok hE (K := fun l => K ((none, m.top) :: l)) h
      refine ⟨(none, m.top) :: r, ⟨?_, g1⟩, g2, by simp [g3]⟩
      exact load_fok (K := some) hE (fun c' hc' => by injection hc' with e; rw [e]; exact .inr rfl) hc
    · exact absurd h (by simp)
  | [], _ :: _, K, h => by simp [resF] at h
  | .tmp s :: _, [], K, h => by simp [resF] at h
  | .cell s T :: _, [], K, h => by simp [resF] at h
  | .cell s T :: _, (some _, _) :: _, K, h => by simp [resF] at h

theorem fin_fok {x : Res × Bxs} (hE : E.Ok P) {nB : Nat} {rs : List ResultVar} {sg : List (Option Nat × Sh)} {e : PX} {st : St} (h : finF E nB rs sg e st = some x) :
    (∀ id, e ≠ .exit id) ∧ ∃ st', Wk st st' ∧ resP P st' rs x.1 ∧ st'.B.take nB = x.2 := by
  have hne : ∀ id, e ≠ .exit id := by
    intro id q; subst q; exact absurd h (by simp [finF])
  have h : (resF E (retOs st (shrR rs sg)) rs sg fun r => some (r, (retOs st (shrR rs sg)).B.take nB)) = some x := by
    cases e with
    | exit id => exact absurd rfl (hne id)
    | _ => exact h
  obtain ⟨r, h1, h2, h3⟩ := res_fok hE h
  injection h2 with h2
  subst h2
  exact ⟨hne, _, Wk.retOs _ _, h1, rfl⟩

theorem npO_some {nB : Nat} {o : Out} {r : Res} {B' : Bxs} (h : npO nB o = some (r, B')) : ∃ B, o = some (r, B) ∧ npL (r.map (·.2)) = true ∧ (∀ k, nB = k + 1 → ∃ cs ex, B = some cs :: ex ∧ (∀ c ∈ cs, npC c = true) ∧ B' = [some cs]) := by
  unfold npO at h
  split at h
  · rename_i r0 B
    obtain ⟨h1, h2⟩ := npG_some h
    split at h2
    · injection h2 with h2
      injection h2 with e1 e2
      subst e1
      exact ⟨B, rfl, h1, fun k hk => by simp at hk⟩
    · split at h2
      · rename_i cs q
        obtain ⟨cm, hcm, h6⟩ := sO_some h2
        obtain ⟨h7, h8⟩ := npG_some h6
        injection h8 with h8
        injection h8 with e1 e2
        subst e1
        refine ⟨_, rfl, h1, fun k hk => ⟨cs, q, rfl, fun c hc => ?_, e2.symm⟩⟩
        rw [shsM_map hcm] at hc
        obtain ⟨m, hm, rfl⟩ := List.mem_map.1 hc
        exact npL_mem h7 m hm
      · exact absurd h2 (by simp)
  · exact absurd h (by simp)

/-- The tables of contracts. -/
def ExtOk (P : Program) (X : List (Nat × (List MV → Out))) : Prop := ∀ g h args r B', lkN X g = some h → h args = some (r, B') → npL args = true → Spec P g args r

theorem evalF_sound (hE : E.Ok P) {X : List (Nat × (List MV → Out))} (hX : ExtOk P X) : ∀ n, Sound P (evalF P E X n)
  | 0 => ⟨fun g args r B' h => by simp [evalF] at h, fun g off args cs r cs' ex h => by simp [evalF] at h⟩
  | n + 1 => by
    have ih := evalF_sound hE hX n
    have step : ∀ g args (B : Bxs) r B', evalF P E X (n + 1) g args B = some (r, B') → (∃ h, lkN X g = some h ∧ B = [] ∧ h args = some (r, B')) ∨ ∃ fn c sg B2, P.funcs[g]? = some fn ∧ fn.body = some c ∧ (fn.name == "runtime.NumGoroutine") = false ∧ args.length ≤ fn.ntmps ∧
        PW P fn.ntmps c ⟨argsV 0 args, B⟩ (fun e s => finF E B.length fn.results.toList sg e s = some (r, B2)) ∧ npL (r.map (·.2)) = true ∧ (∀ k, B.length = k + 1 → ∃ cs ex, B2 = some cs :: ex ∧ (∀ c ∈ cs, npC c = true) ∧ B' = [some cs]) := by
      intro g args B r B' h
      simp only [evalF] at h
      split at h
      · rename_i hh hx
        split at h
        · exact .inl ⟨hh, hx, rfl, h⟩
        · exact absurd h (by simp)
      · split at h
        · exact absurd h (by simp)
        rename_i fn hfn
        split at h
        · exact absurd h (by simp)
        rename_i c hc
        split at h
        · exact absurd h (by simp)
        rename_i fp hfp
        obtain ⟨h1, h⟩ := sB_some h
        simp only [Bool.and_eq_true, Bool.not_eq_true'] at h1
        obtain ⟨B2, h2, h3, h4⟩ := npO_some h
        exact .inr ⟨fn, c, fp.sg, B2, hfn, hc, h1.1, ble_nat h1.2, exec_fok hE ih fp.pl c _ _ h2, h3, h4⟩
    refine ⟨fun g args r B' h hnp => ?_, fun g off args cs r cs' ex h hnp hcs hr => ?_⟩
    · rcases step g args [] r B' h with ⟨hh, hx, _, h⟩ | ⟨fn, c, sg, B2, hf, hb, hname, hna, hp, hnr, _⟩
      · exact hX g hh args r B' hx h hnp
      · refine spec_of0 hf hb rfl rfl hname hna (fun y hy => npL_mem hnr _ (List.mem_map_of_mem hy)) (npL_mem hnp) ?_
        intro γ ω w a R hrel hk
        refine hp γ ω w a R hrel (fun e γ' ω' w' st' a' g1 g2 g3 => ?_)
        obtain ⟨q1, st2, q2, q3, q4⟩ := fin_fok hE g3
        obtain ⟨ω2, c2, r2⟩ := q2 γ' ω' w' fn.ntmps a' g2
        refine hk e γ' ω2 w' st2 a' (g1.trans c2) r2 ?_
        cases e with
        | exit id => exact (q1 id rfl).elim
        | _ => exact q3
    · rcases step g (.ptr 0 off :: args) [some cs] r _ h with ⟨hh, hx, hB, h⟩ | ⟨fn, c, sg, B2, hf, hb, hname, hna, hp, hnr, hB⟩
      · exact absurd hB (by simp)
      · obtain ⟨ds, ex2, hB2, hds, he⟩ := hB 0 rfl
        have he' : cs' = ds ∧ ex = [] := by simpa using he
        obtain ⟨e1, e2⟩ := he'
        subst e1
        have hrn : npR r := fun y hy => ⟨hr y hy, npL_mem hnr _ (List.mem_map_of_mem hy)⟩
        have hbn : npB (some cs') := by intro q hq c hc; injection hq with hq; subst hq; exact hds c hc
        refine ⟨?_, hrn, hbn⟩
        refine specB_ofA hf hb rfl rfl hname hna rfl hrn (by intro b hb'; rw [List.mem_singleton] at hb'; rw [hb']; exact hbn) ?_
        intro γ ω w a R hrel hk
        refine hp γ ω w a R hrel (fun e γ' ω' w' st' a' g1 g2 g3 => ?_)
        obtain ⟨q1, st2, q2, q3, q4⟩ := fin_fok hE g3
        obtain ⟨ω2, c2, r2⟩ := q2 γ' ω' w' fn.ntmps a' g2
        refine hk e γ' ω2 w' st2 a' (g1.trans c2) r2 ?_
        have hq : resP P st2 fn.results.toList r ∧ ∃ ex, st2.B = [some cs'] ++ ex := ⟨q3, st2.B.drop 1, by have h7 : st2.B.take 1 = some cs' :: ex2 := q4.trans hB2; cases hs : st2.B with | nil => rw [hs] at h7; simp at h7 | cons b1 b2 => rw [hs] at h7; simp at h7; simp [h7.1]⟩
        cases e with
        | exit id => exact (q1 id rfl).elim
        | _ => exact hq

/-- A function, unrolled once. -/
theorem evalF_eq {X : List (Nat × (List MV → Out))} {n g : Nat} {args : List MV} {B : Bxs} {fn : Func} {c : Code} {fp : FnP} {nt : Nat} {rs : List ResultVar} (hX : lkN X g = none) (hf : P.funcs[g]? = some fn) (hb : fn.body = some c) (hp : lkN E.fn g = some fp) (hnt : fn.ntmps = nt) (hrs : fn.results.toList = rs) (hname : (fn.name == "runtime.NumGoroutine") = false) (hna : Nat.ble args.length nt = true) :
    evalF P E X (n + 1) g args B = npO B.length (bodyF E (evalF P E X n) nt rs fp c args B) := by
  subst hnt; subst hrs
  simp only [evalF, hX, hf, hb, hp, hname, hna, Bool.not_false, Bool.and_self, sB]

end
end Go.Pv
