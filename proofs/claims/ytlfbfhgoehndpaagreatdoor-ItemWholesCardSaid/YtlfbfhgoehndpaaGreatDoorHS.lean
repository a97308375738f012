/- The library of this work, H texts, part S: regions, statements and functions are right. -/
import Derived.Test.YtlfbfhgoehndpaaGreatDoorHR
set_option linter.unusedVariables false
set_option linter.unusedSimpArgs false
namespace Go.Pv

section
variable {E : Env} {P : Program} {nt nB : Nat} {fp : FnP} {cl : Cl}

theorem cond_some {α : Type} {b : Bool} {o o' : Option α} {x : α} (h : cnd b o o' = some x) : (b = true ∧ o = some x) ∨ (b = false ∧ o' = some x) := by
  cases b with
  | true => exact .inl ⟨rfl, h⟩
  | false => exact .inr ⟨rfl, h⟩

theorem dstL_gs (ops : Array Oper) (j : Nat) : dstL (gsO ops) j = dstN ops j := by
  unfold dstL gsO dstN
  rw [List.getElem?_map, ← Array.getElem?_toList]
  cases ops.toList[j]? with
  | none => rfl
  | some o => simp only [Option.map_some, Option.bind_some]; cases o.dst <;> rfl

theorem lk_lit {st : St} {d : Nat} {b : Bool} (hb : lk st.v d = .bool b) (s : Nat) : lk (st.lit d b).v s = lk st.v s := by
  show lk (pt st.v d (.bool b)) s = _
  rw [lk_pt]
  split
  · rename_i e; subst e; exact hb.symm
  · rfl

theorem lit_fok {α : Type} {x : α} {gs : List (Option Tmp)} {o : Oper} {st : St} {F : St → Option α} (h : litF gs o st F = some x) : ∃ st', Ext st st' ∧ F st' = some x := by
  unfold litF at h
  split at h
  · exact ⟨st, ⟨rfl, fun _ => rfl⟩, h⟩
  · split at h
    · rename_i e he
      split at h
      · rename_i b hb
        rcases cond_some h with ⟨q, h⟩ | ⟨q, h⟩
        · subst q; exact ⟨st.lit e true, ⟨rfl, lk_lit hb⟩, h⟩
        · subst q; exact ⟨st.lit e false, ⟨rfl, lk_lit hb⟩, h⟩
      · exact ⟨st, ⟨rfl, fun _ => rfl⟩, h⟩
    · exact ⟨st, ⟨rfl, fun _ => rfl⟩, h⟩

/-- What oneF comes to: it is wanted and done, or it is not. -/
theorem one_cases {α : Type} {x : α} {ops : Array Oper} {o : Oper} {st : St} {K : St → Option α} (h : oneF E cl nt fp (gsO ops) o st K = some x) :
    (wantP ops st o = some true ∧ opF E cl nt fp o st K = some x) ∨ (wantP ops st o = some false ∧ (∀ t, o.dst = some t → t < nt) ∧ K (putO st o.dst (.tup [])) = some x) := by
  unfold oneF at h
  split at h
  · rename_i hg
    exact .inl ⟨by unfold wantP; rw [hg], h⟩
  · rename_i j want hg
    split at h
    · rename_i e he
      rw [dstL_gs] at he
      split at h
      · rename_i b hb
        have hw : wantP ops st o = some (b == want) := by unfold wantP; rw [hg]; simp only [he, hb]
        cases want with
        | true =>
          rcases cond_some h with ⟨q, h⟩ | ⟨q, h⟩
          · exact .inl ⟨by rw [hw, q]; rfl, h⟩
          · obtain ⟨g1, g2⟩ := dst_some h
            exact .inr ⟨by rw [hw, q]; rfl, g1, g2⟩
        | false =>
          rcases cond_some h with ⟨q, h⟩ | ⟨q, h⟩
          · obtain ⟨g1, g2⟩ := dst_some h
            exact .inr ⟨by rw [hw, q]; rfl, g1, g2⟩
          · exact .inl ⟨by rw [hw, q]; rfl, h⟩
      · rename_i hb
        obtain ⟨g1, g2⟩ := dst_some h
        exact .inr ⟨by unfold wantP; rw [hg]; simp only [he, hb], g1, g2⟩
      · exact absurd h (by simp)
    · exact absurd h (by simp)

theorem run1_ok {α : Type} {x : α} (hE : E.Ok P) (hcl : Sound P cl) {ops : Array Oper} {o : Oper} {k : Nat} (ho : ops[k]? = some o) {γ : List Value} {ω : Own} {w : World} {st : St} {a : Act} (h : Rel γ ω w nt st a) {K : St → Option α} (hx : oneF E cl nt fp (gsO ops) o st K = some x) (Q : Exit → Act → World → Prop) :
    wpOp P ops Q k (fun a' w' => ∃ γ' ω' st', Chg NotOuter γ ω w γ' ω' w' ∧ Rel γ' ω' w' nt st' a' ∧ K st' = some x) a w := by
  unfold wpOp
  simp only [ho]
  rcases one_cases hx with ⟨hw, hx⟩ | ⟨hw, hd, hx⟩
  · rw [if_pos (want_ok h hw)]
    exact .inl (op_ok hE hcl h hx Q)
  · rw [if_neg (by rw [want_ok h hw]; simp)]
    exact ⟨γ, ω, _, Chg.refl _ _ _ _, h.putO hd rep_undef, hx⟩

theorem one_ok {α : Type} {x : α} (hE : E.Ok P) (hcl : Sound P cl) {ops : Array Oper} {o : Oper} {k : Nat} (ho : ops[k]? = some o) (hs : ∀ cs b, o.op ≠ .select cs b) {st : St} {K : St → Option α} {K' : St → Prop} (hx : oneF E cl nt fp (gsO ops) o st K = some x)
    (hK : ∀ {γ : List Value} {ω : Own} {w : World} {y : Act} (st' : St), Rel γ ω w nt st' y → K st' = some x → K' st') : Steps1 P nt ops o k st K' := by
  intro γ ω w y a ds h hA hl Q
  have hwa : Region.wanted o (yielded ops a.tmps) = Region.wanted o (yielded ops y.tmps) := by
    unfold Region.wanted
    cases hg : o.guard with
    | none => rfl
    | some z =>
      obtain ⟨j, want⟩ := z
      have : yielded ops a.tmps j = yielded ops y.tmps j := by
        unfold yielded
        cases hd0 : (ops[j]?).bind (·.dst) with
        | none => rfl
        | some d0 =>
          simp only [Option.bind_some]
          rw [hA.same d0 (hl d0 (guard_looks hg hd0))]
      simp only [this]
  unfold wpOp
  simp only [ho]
  rw [hwa]
  rcases one_cases hx with ⟨hw, hx⟩ | ⟨hw, hd, hx⟩
  · rw [if_pos (want_ok h hw)]
    refine .inl ?_
    have := Oper.wp_dst (wp_move (ops := ops) hA hs hl (Q := Q) (Oper.wp_dst (op_ok hE hcl h hx (fun _ _ _ => False))))
    refine Oper.wp_mono (fun a' w' hh => ?_) this
    obtain ⟨⟨x', ⟨⟨γ', ω', st', h1, h2, h3⟩, h5⟩, h4⟩, h6⟩ := hh
    exact ⟨γ', ω', st', x', h1, h2, hK st' h2 h3, h4, h5, h6⟩
  · rw [if_neg (by rw [want_ok h hw]; simp)]
    have hr := h.putO hd (v := undef) rep_undef
    exact ⟨γ, ω, _, _, Chg.refl _ _ _ _, hr, hK _ hr hx, hA.put _ _, ⟨undef, rfl⟩, undef, rfl⟩

theorem run_fok {α : Type} {x : α} (hE : E.Ok P) (hcl : Sound P cl) {ops : Array Oper} : ∀ (l : List Oper) (i : Nat), ops.toList.drop i = l → ∀ {γ : List Value} {ω : Own} {w : World} {st : St} {a : Act}, Rel γ ω w nt st a → ∀ {K : St → Option α}, runF E cl nt fp (gsO ops) l st K = some x → ∀ (Q : Exit → Act → World → Prop),
    (∀ γ' ω' w' st' a', Chg NotOuter γ ω w γ' ω' w' → Rel γ' ω' w' nt st' a' → K st' = some x → Q .normal a' w') → wpOps P ops Q (List.range' i l.length) a w
  | [], i, hl, γ, ω, w, st, a, h, K, hx, Q, hq => by
    simp only [List.length_nil, List.range'_zero, wpOps]
    exact hq _ _ _ _ _ (Chg.refl _ _ _ _) h hx
  | o :: r, i, hl, γ, ω, w, st, a, h, K, hx, Q, hq => by
    have ho : ops[i]? = some o := by
      have := congrArg (fun l => l[0]?) hl
      simpa [List.getElem?_drop] using this
    have hr : ops.toList.drop (i + 1) = r := by
      rw [← List.drop_drop, hl]; rfl
    simp only [List.length_cons, List.range'_succ]
    rw [wpOps_cons]
    obtain ⟨st0, hext, hx⟩ := lit_fok (show litF (gsO ops) o st _ = some x from hx)
    refine wpOp_mono (fun a' w' hh => ?_) (run1_ok hE hcl ho (h.ext hext.B hext.lk) hx Q)
    obtain ⟨γ', ω', st', h1, h2, h3⟩ := hh
    exact run_fok hE hcl r (i + 1) hr h2 h3 Q (fun γ3 ω3 w3 st3 a3 g1 g2 g3 => hq _ _ _ _ _ (h1.trans g1) g2 g3)

theorem PW.ofRun {α : Type} {x : α} (hE : E.Ok P) (hcl : Sound P cl) {id : Nat} {ops : Array Oper} {st : St} {K : PX → St → Option α} (h : runF E cl nt fp (gsO ops) ops.toList st (fun st' => K .normal st') = some x) : PW P nt nB (.region id ops false) st (fun e s => K e s = some x) := by
  intro γ ω w a R hr hk
  refine wp_region ?_
  have := run_fok hE hcl ops.toList 0 (by simp) hr h R (fun γ' ω' w' st' a' h1 h2 h3 => hk .normal _ _ _ _ _ h1.toN h2 h3)
  rw [List.range_eq_range']
  simpa using this

/-! ### Open orders -/
theorem eqM_some {α : Type} {m m' : MV} {o : Option α} {x : α} (h : eqM m m' o = some x) : m = m' ∧ o = some x := by
  obtain ⟨h1, h⟩ := sB_some h
  exact ⟨mvB_eq _ _ h1, h⟩

theorem drop_get {ops : Array Oper} {i : Nat} {o : Oper} {r : List Oper} (h : ops.toList.drop i = o :: r) : ops[i]? = some o := by
  have := congrArg (fun l => l[0]?) h
  simpa [List.getElem?_drop] using this

theorem memN_false {L : List Nat} {i : Nat} (h : memN L i = false) : i ∉ L := fun hm => by
  rw [memN_iff.2 hm] at h; simp at h

theorem stl_fok {α : Type} {x : α} (hE : E.Ok P) {ops : Array Oper} {st : St} {γ : List Value} {ω : Own} {w : World} {y : Act} (hr : Rel γ ω w nt st y) {i : Nat} {K : Option α} (h : stlF E nt (gsO ops) ops st i K = some x) : Still P nt ops st i ∧ K = some x := by
  unfold stlF at h
  split at h
  · rename_i o q ho
    have ho' := drop_get ho
    split at h
    · rename_i d hd
      replace h := sB_some h
      obtain ⟨hs, h⟩ := h
      rw [Bool.and_eq_true] at hs
      have hdn : d < nt := by simpa using hs.1
      have hp : wantP ops st o = some true → pureF E st o.op (fun c => eqM c (lk st.v d) K) = some x → Still P nt ops st i ∧ K = some x := by
        intro hw hx
        have g1 := pure_fok (Q := fun c => Ev c (lk st.v d)) hE (fun c c' e hc => by
          obtain ⟨q1, _⟩ := eqM_some hc
          rw [← q1]; exact e) hx
        have g2 := pure_fok (Q := fun c => K = some x) hE (fun c c' e hc => (eqM_some hc).2) hx
        obtain ⟨_, _, _, _, g3⟩ := pure_ok (o := o) hr g2
        exact ⟨⟨o, d, ho', hd, hdn, hs.2, by rw [hw]; exact g1⟩, g3⟩
      have hf : wantP ops st o = some false → eqM (.tup []) (lk st.v d) K = some x → Still P nt ops st i ∧ K = some x := by
        intro hw hx
        obtain ⟨q1, q2⟩ := eqM_some hx
        exact ⟨⟨o, d, ho', hd, hdn, hs.2, by rw [hw]; exact q1.symm⟩, q2⟩
      split at h
      · rename_i hg
        exact hp (by unfold wantP; rw [hg]) h
      · rename_i j want hg
        split at h
        · rename_i e he
          rw [dstL_gs] at he
          split at h
          · rename_i b hb
            have hw : wantP ops st o = some (b == want) := by unfold wantP; rw [hg]; simp only [he, hb]
            cases want with
            | true =>
              rcases cond_some h with ⟨e, h⟩ | ⟨e, h⟩
              · exact hp (by rw [hw, e]; rfl) h
              · exact hf (by rw [hw, e]; rfl) h
            | false =>
              rcases cond_some h with ⟨e, h⟩ | ⟨e, h⟩
              · exact hf (by rw [hw, e]; rfl) h
              · exact hp (by rw [hw, e]; rfl) h
          · rename_i hb
            exact hf (by unfold wantP; rw [hg]; simp only [he, hb]) h
          · exact absurd h (by simp)
        · exact absurd h (by simp)
    · exact absurd h (by simp)
  · exact absurd h (by simp)

theorem stls_fok {α : Type} {x : α} (hE : E.Ok P) {ops : Array Oper} {st : St} {γ : List Value} {ω : Own} {w : World} {y : Act} (hr : Rel γ ω w nt st y) : ∀ {l : List Nat} {K : Option α}, stlsF E nt (gsO ops) ops st l K = some x → stillAll P nt ops st l ∧ K = some x
  | [], K, h => ⟨trivial, h⟩
  | i :: r, K, h => by
    obtain ⟨h1, h2⟩ := stl_fok hE hr (K := stlsF E nt (gsO ops) ops st r K) h
    obtain ⟨h3, h4⟩ := stls_fok hE hr h2
    exact ⟨⟨h1, h3⟩, h4⟩

theorem eqO_some {o o' : Out} {x : Res × Bxs} (h : eqO o o' = some x) : o = some x ∧ o' = some x := by
  have ob : ∀ (a b : Ob), obB a b = true → a = b := by
    intro a b hb
    unfold obB at hb
    split at hb
    · rw [mvBL_eq _ _ hb]
    · simp only [Bool.and_eq_true, beq_iff_eq] at hb
      rw [hb.1, beq_nat hb.2.1, mvBLL_eq _ _ hb.2.2]
    · simp only [Bool.and_eq_true, beq_iff_eq] at hb
      rw [hb.1, mvBE_eq _ _ hb.2]
    · have := mvB_eq _ _ hb; injection this with this; rw [this]
    · exact absurd hb (by simp)
  have bx : ∀ (a b : Bxs), bxB a b = true → a = b := by
    intro a
    induction a with
    | nil => intro b hb; cases b <;> simp [bxB] at hb; rfl
    | cons c r ih =>
      intro b hb
      cases b with
      | nil => cases c <;> simp [bxB] at hb
      | cons d q =>
        cases c with
        | none => cases d with
          | none => simp only [bxB] at hb; rw [ih q hb]
          | some _ => simp [bxB] at hb
        | some cs =>
          cases d with
          | none => simp [bxB] at hb
          | some ds =>
            simp only [bxB, Bool.and_eq_true] at hb
            rw [ob _ _ hb.1, ih q hb.2]
  unfold eqO at h
  split at h
  · rename_i r B r' B'
    replace h := sB_some h
    obtain ⟨h1, h⟩ := h
    rw [Bool.and_eq_true] at h1
    rw [← mvBL_eq _ _ h1.1, ← bx _ _ h1.2]
    exact ⟨h, h⟩
  · exact absurd h (by simp)

theorem early_fok {α : Type} {x : α} (hE : E.Ok P) {ops : Array Oper} {rg : Bool} {o : Oper} {i : Nat} {d : Nat} {st : St} {K : MV → Option α} (hreg : regOk ops = true) (ho : ops[i]? = some o) (hd : o.dst = some d) (hpk : pureK o.op = true) (hself : d ∉ o.looksAt ops) (h : earlyF E nt (gsO ops) rg o st K = some x)
    {γ : List Value} {ω : Own} {w : World} {y : Act} (hr : Rel γ ω w nt st y) : d < nt ∧ ∃ c v, Rel γ ω w nt (st.put d c) (y.put (some d) v) ∧ K c = some x ∧ (rg = true → RegV P γ ω w ops (y.put (some d) v) i) := by
  have wput : ∀ v, Region.wanted o (yielded ops (y.put (some d) v).tmps) = Region.wanted o (yielded ops y.tmps) := fun v => wanted_put (ops := ops) o y (some d) v (fun d' q => by injection q with q; subst q; exact hself)
  have eput : ∀ v, execOp (y.put (some d) v).eval o = execOp y.eval o := fun v => execOp_put (ops := ops) o (regOk_get hreg ho).2.1 y (some d) v (fun d' q => by injection q with q; subst q; exact hself)
  have hsz : ∀ v, d < nt → (y.put (some d) v).tmps[d]? = some v := fun v hdn => by
    simp only [Act.put]; rw [Array.getElem?_setIfInBounds_self, if_pos (by rw [hr.size]; exact hdn)]
  have run : wantP ops st o = some true → sB (!rg || regK E st o.op) (dstF o.dst nt (pureF E st o.op K)) = some x → d < nt ∧ ∃ c v, Rel γ ω w nt (st.put d c) (y.put (some d) v) ∧ K c = some x ∧ (rg = true → RegV P γ ω w ops (y.put (some d) v) i) := by
    intro hw hx
    replace hx := sB_some hx
    obtain ⟨h1, hx⟩ := hx
    replace hx := dst_some hx
    obtain ⟨hk, hx⟩ := hx
    have hdn : d < nt := hk d hd
    have hp := pure_fok (Q := fun c => ∃ c', Ev c c' ∧ K c' = some x) hE (fun c c' e hc => ⟨c', e, hc⟩) hx
    refine ⟨hdn, ?_⟩
    have hwt := want_ok hr hw
    cases rg with
    | false =>
      obtain ⟨c, v, q1, q2, c', q3, q4⟩ := pure_ok (o := o) hr hp
      exact ⟨c', v, hr.put hdn (q3.rep q2), q4, fun e => by simp at e⟩
    | true =>
      obtain ⟨c, v, q1, q2, c', q3, q4⟩ := reg_ok (o := o) hE hr (by simpa using h1) hp
      refine ⟨c', v, hr.put hdn (q3.rep q2), q4, fun _ => ⟨o, d, v, ho, hd, hpk, hsz v hdn, fun _ γ' ω' w' hk' => ?_, fun q => ?_⟩⟩
      · rw [eput]; exact q1 γ' ω' w' hk'
      · rw [wput, hwt] at q; simp at q
  have skip : wantP ops st o = some false → dstF o.dst nt (K (.tup [])) = some x → d < nt ∧ ∃ c v, Rel γ ω w nt (st.put d c) (y.put (some d) v) ∧ K c = some x ∧ (rg = true → RegV P γ ω w ops (y.put (some d) v) i) := by
    intro hw hx
    obtain ⟨hk, hx⟩ := dst_some hx
    have hdn : d < nt := hk d hd
    have hwt := want_ok hr hw
    refine ⟨hdn, .tup [], undef, hr.put hdn rep_undef, hx, fun _ => ⟨o, d, undef, ho, hd, hpk, hsz undef hdn, fun q _ _ w' _ => ?_, fun _ => rfl⟩⟩
    rw [wput, hwt] at q; simp at q
  unfold earlyF at h
  split at h
  · rename_i hg
    exact run (by unfold wantP; rw [hg]) h
  · rename_i j want hg
    split at h
    · rename_i e he
      rw [dstL_gs] at he
      split at h
      · rename_i b hb
        have hw : wantP ops st o = some (b == want) := by unfold wantP; rw [hg]; simp only [he, hb]
        cases want with
        | true =>
          rcases cond_some h with ⟨e, h⟩ | ⟨e, h⟩
          · exact run (by rw [hw, e]; rfl) h
          · exact skip (by rw [hw, e]; rfl) h
        | false =>
          rcases cond_some h with ⟨e, h⟩ | ⟨e, h⟩
          · exact skip (by rw [hw, e]; rfl) h
          · exact run (by rw [hw, e]; rfl) h
      · rename_i hb
        exact skip (by unfold wantP; rw [hg]; simp only [he, hb]) h
      · exact absurd h (by simp)
    · exact absurd h (by simp)

theorem okReg_ok {ops : Array Oper} {S R : List Nat} {i : Nat} {o : Oper} {d : Nat} (ho : ops[i]? = some o) (hd : o.dst = some d) (h : okReg ops S R i = true) :
    pureK o.op = true ∧ (∀ j ∈ i :: (S ++ R), ∀ oj, ops[j]? = some oj → d ∉ oj.looksAt ops) ∧ (∀ j ∈ S ++ R, dstN ops j ≠ some d) ∧ (∀ j ∈ S, ∀ e, dstN ops j = some e → e ∉ o.looksAt ops) := by
  simp only [okReg, ho, hd, Bool.and_eq_true] at h
  obtain ⟨⟨⟨h1, h2⟩, h3⟩, h4⟩ := h
  refine ⟨h1, fun j hj oj hoj hm => ?_, fun j hj => ?_, fun j hj e he hm => ?_⟩
  · have := List.all_eq_true.1 h2 j hj
    simp only [hoj, Bool.not_eq_true'] at this
    rw [List.contains_iff_mem.2 hm] at this; simp at this
  · have := List.all_eq_true.1 h3 j hj
    simpa using this
  · have := List.all_eq_true.1 h4 j hj
    simp only [he, Bool.not_eq_true'] at this
    rw [List.contains_iff_mem.2 hm] at this; simp at this
theorem okLod_ok {ops : Array Oper} {S R : List Nat} {i : Nat} {o : Oper} {d : Nat} (ho : ops[i]? = some o) (hd : o.dst = some d) (h : okLod ops S R i = true) :
    pureK o.op = true ∧ (∀ j ∈ i :: (S ++ R), ∀ oj, ops[j]? = some oj → d ∉ oj.looksAt ops) ∧ (∀ j ∈ S ++ R, dstN ops j ≠ some d) := by
  simp only [okLod, ho, hd, Bool.and_eq_true] at h
  obtain ⟨⟨h1, h2⟩, h3⟩ := h
  refine ⟨h1, fun j hj oj hoj hm => ?_, fun j hj => ?_⟩
  · have := List.all_eq_true.1 h2 j hj
    simp only [hoj, Bool.not_eq_true'] at this
    rw [List.contains_iff_mem.2 hm] at this; simp at this
  · have := List.all_eq_true.1 h3 j hj
    simpa using this

theorem apt_rest {ops : Array Oper} {S R : List Nat} (h : Apt ops S R) (j : Nat) : Apt ops (restOf ops S j) (restOf ops R j) := by
  have hback : ∀ (T : List Nat), ∀ i ∈ restOf ops T j, i ∈ T := fun T i hi => by
    unfold restOf at hi
    split at hi
    · exact (List.mem_filter.1 hi).1
    · exact hi
  exact h.sub (hback S) (hback R)

theorem shvs_const {st st' : St} : ∀ {xs : List (Nat × Operand)}, xs.all isCst = true → shvs st (xs.map (·.2)) = shvs st' (xs.map (·.2))
  | [], _ => rfl
  | (i, x) :: r, h => by
    rw [List.all_cons, Bool.and_eq_true] at h
    have ih := shvs_const (st := st) (st' := st') h.2
    cases x with
    | const v => simp only [List.map_cons, shvs, ih, shv, opv]
    | _ => exact absurd h.1 (by simp [isCst])
theorem eval_const {a b : Act} : ∀ {xs : List (Nat × Operand)}, xs.all isCst = true → xs.map (fun x => (x.1, a.eval x.2)) = xs.map (fun x => (x.1, b.eval x.2))
  | [], _ => rfl
  | (i, x) :: r, h => by
    rw [List.all_cons, Bool.and_eq_true] at h
    have ih := eval_const (a := a) (b := b) h.2
    cases x with
    | const v => rw [List.map_cons, List.map_cons, ih]; rfl
    | _ => exact absurd h.1 (by simp [isCst])
theorem lateV_ok (hE : E.Ok P) {ops : Array Oper} {i : Nat} {o : Oper} (ho : ops[i]? = some o) {d : Nat} {m : LM} (h : lateV E nt fp o = some (d, m)) : LateOp P nt ops (i, d, m) := by
  unfold lateV at h
  split at h
  · rename_i d' T hg hdst hop
    split at h
    · rename_i ti hti
      split at h
      · rename_i hc
        simp only [Bool.and_eq_true] at hc
        injection h with h
        injection h with hd hm
        subst hd; subst hm
        refine ⟨o, ho, hdst, by simpa using hc.1.1, hg, fun {γ ω w st x} hr a => ?_⟩
        have hT := ty_of (hE.ty _ _ hti)
        obtain ⟨z, hz, hz1, hz2⟩ := run_zeroT (P := P) (w := w) hT
        obtain ⟨z1, z2, z3⟩ := zerosOf_rep (γ := γ) (ω := ω) (w := w) hz1
        have hrun : (Instr.alloc T true (.tuple #[])).run P w = .ok (.pointer (some ⟨w.heap.size, 0, none⟩)) (w.alloc (.cells z.cells.toList.toArray T)) := by
          simp [Instr.alloc, hz, newVar, newRow]
        obtain ⟨hcg, hlt⟩ := alloc_chg γ ω w hr.lt (.cells z.cells.toList.toArray T) (some .outer)
        refine ⟨_, _, _, ?_, hcg, hlt, w.heap.size, z.cells.toList.toArray, T, rfl, Nat.le_refl _, by simp, by simp, heap_alloc_new w _, by simpa using z1, fun i c hi => ?_⟩
        · have e1 : (execOp a.eval o).run P w = ((Instr.alloc T true (.tuple #[])) >>= fun v => (pure (Next.value v) : Sem Next)).run P w := by simp [execOp, hop]
          rw [e1, Sem.run_bind, hrun]; rfl
        · rw [List.getElem?_map] at hi
          cases hti2 : ti.zero[i]? with
          | none => rw [hti2] at hi; simp at hi
          | some m =>
            rw [hti2] at hi; simp at hi; subst hi
            have hiu : i < z.cells.toList.length := by rw [z1]; exact (List.getElem?_eq_some_iff.1 hti2).1
            exact ⟨z.cells.toList[i], by simp [hiu], z2 _ (List.getElem_mem hiu), ((z3 i m _ hti2 (List.getElem?_eq_getElem hiu)).top).chg hcg⟩
      · exact absurd h (by simp)
    · exact absurd h (by simp)
  · rename_i d' T len parts hg hdst hop
    split at h
    · rename_i e hk
      split at h
      · exact absurd h (by simp)
      · rename_i sz hsz
        split at h
        · rename_i hc
          rw [Bool.and_eq_true] at hc
          split at h
          · rename_i ms hms
            split at h
            · rename_i es hes
              split at h
              · rename_i hall
                simp only [Bool.and_eq_true] at hall
                obtain ⟨⟨⟨⟨h1, h2⟩, h3⟩, h4⟩, h5⟩ := hall
                injection h with h
                injection h with hd hm
                subst hd; subst hm
                refine ⟨o, ho, hdst, by simpa using hc.2, hg, fun {γ ω w st x} hr a => ?_⟩
                rw [shvs_const (st' := st) hc.1] at hms
                obtain ⟨us, hrun, hcells⟩ := bs_run hE hr hk hsz hms hes h1 h2 h3 h4 h5
                have hev : (parts.map fun y => (y.1, x.eval y.2)) = parts.map fun y => (y.1, a.eval y.2) := Array.ext' (by simpa using eval_const hc.1)
                obtain ⟨hcg, hlt⟩ := alloc_chg γ ω w hr.lt (.cells us.toArray e) none
                have hω : (fun b => if b = w.heap.size then none else ω b) = ω := by
                  funext b
                  by_cases q : b = w.heap.size
                  · rw [if_pos q, q]; exact (hr.lt _ (Nat.le_refl _)).symm
                  · rw [if_neg q]
                rw [hω] at hcg
                have hlen := beq_nat h1
                refine ⟨.slice (some ⟨w.heap.size, 0, none⟩) len len, ω, w.alloc (.cells us.toArray e), ?_, hcg, fun b hb => hr.lt b (by simp at hb; omega), ?_⟩
                · have e1 : (execOp a.eval o).run P w = ((Instr.buildSlice T len (parts.map fun y => (y.1, a.eval y.2))) >>= fun v => (pure (Next.value v) : Sem Next)).run P w := by simp [execOp, hop]
                  rw [e1, Sem.run_bind, ← hev, hrun]; rfl
                · subst hlen
                  show Rep _ _ _ _ _
                  have hcell : ∀ (j : Nat) (y : List MV), es[j]? = some y → ∀ (i : Nat) (c : MV), y[i]? = some c → ∃ u, us[j * (sz + 1) + i]? = some u ∧ (np c = true ∧ Rep γ ω w c u) := hcells.cell
                  refine .list es (sz + 1) w.heap.size 0 es.length (fun j i => (us[j * (sz + 1) + i]?).getD undef) (Nat.le_refl _) (hr.lt _ (Nat.le_refl _)) (by simp) hcells.wid (fun y hy => ?_) (fun j y hj i c hi => ?_) (fun j y hj i c hi => ?_)
                  · obtain ⟨j, hj, e⟩ := List.mem_iff_getElem.1 hy
                    exact allNp_get h5 j y (by rw [List.getElem?_eq_getElem hj, e])
                  · obtain ⟨u, q1, q2⟩ := hcell j y hj i c hi
                    have hul : j * (sz + 1) + i < us.length := (List.getElem?_eq_some_iff.1 q1).1
                    refine ⟨?_, ?_⟩
                    · rw [q1, Nat.zero_add]
                      simp only [World.cell?, heap_alloc_new, Option.getD_some]
                      simpa using q1
                    · rw [q1]; exact hcells.one u (List.mem_of_getElem? q1)
                  · obtain ⟨u, q1, q2⟩ := hcell j y hj i c hi
                    rw [q1]
                    exact q2.2.chg hcg
              · exact absurd h (by simp)
            · exact absurd h (by simp)
          · exact absurd h (by simp)
        · exact absurd h (by simp)
    · exact absurd h (by simp)
  · exact absurd h (by simp)
theorem lateT_ok (hE : E.Ok P) {ops : Array Oper} : ∀ {l : List Nat} {T : Lts}, lateT E nt fp ops l = some T → LtOk P nt ops T ∧ (ksT T).Nodup
  | [], T, h => by
    simp only [lateT] at h; injection h with h; subst h
    exact ⟨⟨by simp, by simp, by simp, by simp⟩, by simp⟩
  | i :: l, T, h => by
    simp only [lateT] at h
    split at h
    · rename_i o q ho
      split at h
      · rename_i d m T' hv hT
        split at h
        · rename_i hall
          injection h with h; subst h
          obtain ⟨g1, g2⟩ := lateT_ok hE hT
          have hall2 : ∀ t ∈ T', (t.1 ≠ i ∧ t.2.1 ≠ d) ∧ (isBox m && isBox t.2.2) = false := fun t ht => by
            have := List.all_eq_true.1 hall t ht
            simp only [Bool.and_eq_true, Bool.not_eq_true'] at this
            exact ⟨⟨fun e => by rw [e, Nat.beq_refl] at this; simp at this, fun e => by rw [e, Nat.beq_refl] at this; simp at this⟩, this.2⟩
          have hne : ∀ t ∈ T', t.1 ≠ i ∧ t.2.1 ≠ d := fun t ht => (hall2 t ht).1
          refine ⟨⟨fun t ht => ?_, fun t ht t' ht' e => ?_, fun t ht t' ht' e => ?_, fun t ht t' ht' b1 b2 => ?_⟩, ?_⟩
          · rcases List.mem_cons.1 ht with e | e
            · subst e; exact lateV_ok hE (drop_get ho) hv
            · exact g1.op t e
          · rcases List.mem_cons.1 ht with e1 | e1 <;> rcases List.mem_cons.1 ht' with e2 | e2
            · rw [e1, e2]
            · subst e1; exact absurd e.symm (hne t' e2).2
            · subst e2; exact absurd e (hne t e1).2
            · exact g1.one t e1 t' e2 e
          · rcases List.mem_cons.1 ht with e1 | e1 <;> rcases List.mem_cons.1 ht' with e2 | e2
            · rw [e1, e2]
            · subst e1; exact absurd e.symm (hne t' e2).1
            · subst e2; exact absurd e (hne t e1).1
            · exact g1.key t e1 t' e2 e
          · rcases List.mem_cons.1 ht with e1 | e1 <;> rcases List.mem_cons.1 ht' with e2 | e2
            · rw [e1, e2]
            · subst e1; have := (hall2 t' e2).2; rw [b1, b2] at this; simp at this
            · subst e2; have := (hall2 t e1).2; rw [b1, b2] at this; simp at this
            · exact g1.box t e1 t' e2 b1 b2
          · refine List.nodup_cons.2 ⟨fun hm => ?_, g2⟩
            obtain ⟨t, ht, e⟩ := List.mem_map.1 hm
            exact (hne t ht).1 e
        · exact absurd h (by simp)
      · exact absurd h (by simp)
    · exact absurd h (by simp)
theorem okE_ok {ops : Array Oper} {T : Lts} {i : Nat} {o : Oper} (h : okE ops T i o = true) : ∀ t ∈ T, t.1 ≠ i ∧ t.2.1 ∉ o.looksAt ops ∧ o.dst ≠ some t.2.1 := by
  intro t ht
  have := List.all_eq_true.1 h t ht
  simp only [Bool.and_eq_true, Bool.not_eq_true', bne_iff_ne, ne_eq] at this
  refine ⟨fun e => ?_, fun hm => ?_, this.2⟩
  · rw [e, Nat.beq_refl] at this; simp at this
  · rw [List.contains_iff_mem.2 hm] at this; simp at this
/-- What is known of the late ones on the way. -/
structure LtN (P : Program) (nt : Nat) (ops : Array Oper) (L : List Nat) (T : Lts) : Prop where
  ok : LtOk P nt ops T
  nd : (ksT T).Nodup
  out : ∀ t ∈ T, t.1 ∉ L
theorem LtN.early {ops : Array Oper} {L : List Nat} {T : Lts} (h : LtN P nt ops L T) {i : Nat} (hi : ∀ t ∈ T, t.1 ≠ i) : LtN P nt ops (i :: L) T :=
  ⟨h.ok, h.nd, fun t ht hm => (List.mem_cons.1 hm).elim (hi t ht) (h.out t ht)⟩
theorem LtN.step {ops : Array Oper} {L : List Nat} {T : Lts} (h : LtN P nt ops L T) {o : Oper} {j : Nat} (hj : j ∉ ksT T) : LtN P nt ops (j :: (ksT (matM T o) ++ L)) (matR T o) := by
  refine ⟨h.ok.sub (fun t ht => (List.mem_filter.1 ht).1), h.nd.sublist (List.filter_sublist.map _), fun t ht hm => ?_⟩
  obtain ⟨q1, q2⟩ := List.mem_filter.1 ht
  rcases List.mem_cons.1 hm with e | e
  · exact hj (e ▸ List.mem_map_of_mem q1)
  · rcases List.mem_append.1 e with e | e
    · obtain ⟨u, hu, e⟩ := List.mem_map.1 e
      obtain ⟨r1, r2⟩ := List.mem_filter.1 hu
      have := h.ok.key u r1 t q1 e
      subst this
      rw [r2] at q2; simp at q2
    · exact h.out t q1 e
theorem next_off {ops : Array Oper} {T : Lts} {L : List Nat} {j : Nat} (h : j ∈ nextOf ops (ksT T ++ L)) : j ∉ ksT T := by
  intro hm
  have := (List.mem_filter.1 h).2
  rw [memN_iff.2 (List.mem_append_left _ hm)] at this
  simp at this

/-- An open order's next step. -/
def DrX (P : Program) (nt : Nat) (ops : Array Oper) (L S R : List Nat) (T : Lts) (st : St) (K : St → Prop) (j : Nat) : Prop :=
  ∃ o, ops[j]? = some o ∧ okOne ops o (restOf ops R j) = true ∧ okK ops T o = true ∧ Steps1 P nt ops o j (matS (matM T o) st) (fun st' => stillAll P nt ops st' (restOf ops S j) ∧ DrV P nt ops (j :: (ksT (matM T o) ++ L)) (restOf ops S j) (restOf ops R j) (matR T o) st' K)

mutual
theorem drw_fok {x : Res × Bxs} (hE : E.Ok P) (hcl : Sound P cl) {ops : Array Oper} (hreg : regOk ops = true) : ∀ (sc : Sd) (L S R : List Nat) (T : Lts) (st : St) (K : St → Out), LtN P nt ops L T → Apt ops S R → drwF E cl nt fp (gsO ops) ops sc L S R T st K = some x → DrV P nt ops L S R T st (fun st' => K st' = some x)
  | .fin, L, S, R, T, st, K, hT, hapt, h => by
    obtain ⟨h1, h⟩ := sB_some (show sB _ (K st) = some x from h)
    exact DrV.done hT.ok hreg (fun i hi => memN_iff.1 (List.all_eq_true.1 h1 i (List.mem_range.2 hi))) h
  | .reg i r, L, S, R, T, st, K, hT, hapt, h => by
    simp only [drwF] at h
    split at h
    · rename_i o q ho
      have ho' := drop_get ho
      split at h
      · rename_i d hd
        replace h := sB_some h
        obtain ⟨h1, h⟩ := h
        rw [Bool.and_eq_true] at h1
        obtain ⟨h1, h0⟩ := h1
        have hi0 := okE_ok h0
        rw [Bool.and_eq_true, Bool.not_eq_true'] at h1
        replace h := lit_fok h
        obtain ⟨st1, hext, h⟩ := h
        refine DrV.ext hext ?_
        clear hext
        generalize st1 = st at h
        obtain ⟨g1, g2, g3, g4⟩ := okReg_ok ho' hd h1.2
        have hdi : dstN ops i = some d := by simp [dstN, ho', hd]
        have hiS : i ∉ S := fun hh => g3 i (List.mem_append_left _ hh) hdi
        have hself : d ∉ o.looksAt ops := g2 i (by simp) o ho'
        have hapt2 : Apt ops S (i :: R) := ⟨fun a ha j hj oa e hoa he => by
            rcases List.mem_cons.1 ha with q | q
            · subst q; rw [ho'] at hoa; injection hoa with hoa; subst hoa; exact g4 j hj e he
            · exact hapt.1 a q j hj oa e hoa he,
          fun a ha j hj e he => by
            rcases List.mem_cons.1 ha with q | q
            · subst q; rw [hdi] at he; injection he with he; subst he; exact g3 j (List.mem_append_left _ hj)
            · exact hapt.2 a q j hj e he⟩
        have hdn : d < nt ∨ ¬ ∃ (γ : List Value) (ω : Own) (w : World) (y : Act), Rel γ ω w nt st y := by
          rcases Classical.em (∃ (γ : List Value) (ω : Own) (w : World) (y : Act), Rel γ ω w nt st y) with ⟨γ, ω, w, y, hr⟩ | hn
          · exact .inl (early_fok hE hreg ho' hd g1 hself h hr).1
          · exact .inr hn
        rcases hdn with hdn | hn
        · refine DrV.early (S' := S) (R' := i :: R) hreg i ho' hd (memN_false h1.1) hdn hi0 (fun j hj => hj) (fun j hj => List.mem_cons_of_mem _ hj) (.inr (by simp)) hapt2 (fun j hj => List.mem_cons.1 hj) (fun _ => hiS) (fun j hj oj hoj => g2 j (by simp [hj]) oj hoj) (fun j hj => g3 j (List.mem_append_right _ hj)) (fun {γ ω w y} hr => ?_)
          obtain ⟨_, c, v, q1, q2, q3⟩ := early_fok hE hreg ho' hd g1 hself h hr
          refine ⟨c, v, q1, fun _ => q3 rfl, fun hh => absurd (by simp) hh, fun j hj hne hs => ?_, drw_fok hE hcl hreg r (i :: L) S (i :: R) T _ K (hT.early fun t ht => (hi0 t ht).1) hapt2 q2⟩
          exact still_put hs (fun oj hoj => g2 j (by simp [hj]) oj hoj) (g3 j (List.mem_append_left _ hj))
        · intro b γ ω w y a D E' listed fuel Q hc hun hq
          exact (hn ⟨γ, ω, w, y, hc.rel⟩).elim
      · exact absurd h (by simp)
    · exact absurd h (by simp)
  | .take i r, L, S, R, T, st, K, hT, hapt, h => by
    simp only [drwF] at h
    split at h
    · rename_i o q ho
      have ho' := drop_get ho
      split at h
      · rename_i d hd
        replace h := sB_some h
        obtain ⟨h1, h⟩ := h
        rw [Bool.and_eq_true] at h1
        obtain ⟨h1, h0⟩ := h1
        have hi0 := okE_ok h0
        rw [Bool.and_eq_true, Bool.not_eq_true'] at h1
        replace h := lit_fok h
        obtain ⟨st1, hext, h⟩ := h
        refine DrV.ext hext ?_
        clear hext
        generalize st1 = st at h
        obtain ⟨g1, g2, g3⟩ := okLod_ok ho' hd h1.2
        have hdi : dstN ops i = some d := by simp [dstN, ho', hd]
        have hself : d ∉ o.looksAt ops := g2 i (by simp) o ho'
        have hiR : i ∉ R := fun hh => g3 i (List.mem_append_right _ hh) hdi
        have hapt2 : Apt ops (i :: S) R := ⟨fun a ha j hj oa e hoa he => by
            rcases List.mem_cons.1 hj with q | q
            · subst q; rw [hdi] at he; injection he with he; subst he; exact g2 a (by simp [ha]) oa hoa
            · exact hapt.1 a ha j q oa e hoa he,
          fun a ha j hj e he => by
            rcases List.mem_cons.1 hj with q | q
            · subst q; rw [hdi]; intro q; injection q with q; subst q; exact g3 a (List.mem_append_right _ ha) he
            · exact hapt.2 a ha j q e he⟩
        have hdn : d < nt ∨ ¬ ∃ (γ : List Value) (ω : Own) (w : World) (y : Act), Rel γ ω w nt st y := by
          rcases Classical.em (∃ (γ : List Value) (ω : Own) (w : World) (y : Act), Rel γ ω w nt st y) with ⟨γ, ω, w, y, hr⟩ | hn
          · exact .inl (early_fok hE hreg ho' hd g1 hself h hr).1
          · exact .inr hn
        rcases hdn with hdn | hn
        · refine DrV.early (S' := i :: S) (R' := R) hreg i ho' hd (memN_false h1.1) hdn hi0 (fun j hj => List.mem_cons_of_mem _ hj) (fun j hj => hj) (.inl (by simp)) hapt2 (fun j hj => .inr hj) (fun hh => (hiR hh).elim) (fun j hj oj hoj => g2 j (by simp [hj]) oj hoj) (fun j hj => g3 j (List.mem_append_right _ hj)) (fun {γ ω w y} hr => ?_)
          obtain ⟨_, c, v, q1, q2, q3⟩ := early_fok hE hreg ho' hd g1 hself h hr
          obtain ⟨q4, q5⟩ := stl_fok hE q1 q2
          refine ⟨c, v, q1, fun hh => (hiR hh).elim, fun _ => q4, fun j hj hne hs => ?_, drw_fok hE hcl hreg r (i :: L) (i :: S) R T _ K (hT.early fun t ht => (hi0 t ht).1) hapt2 q5⟩
          exact still_put hs (fun oj hoj => g2 j (by simp [hj]) oj hoj) (g3 j (List.mem_append_left _ hj))
        · intro b γ ω w y a D E' listed fuel Q hc hun hq
          exact (hn ⟨γ, ω, w, y, hc.rel⟩).elim
      · exact absurd h (by simp)
    · exact absurd h (by simp)
  | .one j S' R' r, L, S, R, T, st, K, hT, hapt, h => by
    simp only [drwF] at h
    split at h
    · rename_i o q ho
      replace h := sB_some h
      obtain ⟨h1, h⟩ := h
      simp only [Bool.and_eq_true] at h1
      obtain ⟨⟨⟨⟨h2, h3⟩, h4⟩, h5⟩, h5'⟩ := h1
      have e3 := eqNL_eq h3
      have e4 := eqNL_eq h4
      replace h := lit_fok h
      obtain ⟨st1, hext, h⟩ := h
      refine DrV.ext hext ?_
      clear hext
      generalize st1 = st at h
      have hoff : ∀ k ∈ altsD (.one j S' R' r), k ∉ ksT T := fun k hk => next_off (by rw [eqNL_eq h2]; exact hk)
      refine DrV.all hT.ok hT.nd hT.out hreg (eqNL_eq h2) (by simp) (fun k hk => ?_)
      rw [List.mem_singleton] at hk
      subst hk
      refine ⟨o, drop_get ho, by rw [e4]; exact h5, h5', one_ok hE hcl (drop_get ho) (regOk_get hreg (drop_get ho)).2.1 h (fun st' hr hs => ?_)⟩
      obtain ⟨g1, g2⟩ := stls_fok hE hr hs
      rw [e3, e4]
      exact ⟨g1, drw_fok hE hcl hreg r _ S' R' _ st' K (hT.step (hoff k (by simp [altsD]))) (by rw [← e3, ← e4]; exact apt_rest hapt k) g2⟩
    · exact absurd h (by simp)
  | .two j S' R' r m, L, S, R, T, st, K, hT, hapt, h => by
    simp only [drwF] at h
    split at h
    · rename_i o q ho
      replace h := sB_some h
      obtain ⟨h1, h⟩ := h
      simp only [Bool.and_eq_true] at h1
      obtain ⟨⟨⟨⟨h2, h3⟩, h4⟩, h5⟩, h5'⟩ := h1
      have e3 := eqNL_eq h3
      have e4 := eqNL_eq h4
      obtain ⟨h6, h7⟩ := eqO_some h
      have hoff : ∀ k ∈ altsD (.two j S' R' r m), k ∉ ksT T := fun k hk => next_off (by rw [eqNL_eq h2]; exact hk)
      refine DrV.all hT.ok hT.nd hT.out hreg (eqNL_eq h2) (by simp [altsD]) (fun k hk => ?_)
      rcases List.mem_cons.1 hk with e | e
      · subst e
        refine ⟨o, drop_get ho, by rw [e4]; exact h5, h5', one_ok hE hcl (drop_get ho) (regOk_get hreg (drop_get ho)).2.1 h6 (fun st' hr hs => ?_)⟩
        obtain ⟨g1, g2⟩ := stls_fok hE hr hs
        rw [e3, e4]
        exact ⟨g1, drw_fok hE hcl hreg r _ S' R' _ st' K (hT.step (hoff k (by simp [altsD]))) (by rw [← e3, ← e4]; exact apt_rest hapt k) g2⟩
      · exact alt_fok hE hcl hreg m L S R T st K hT (fun k hk => hoff k (by simp [altsD, hk])) hapt h7 k e
    · exact absurd h (by simp)
theorem alt_fok {x : Res × Bxs} (hE : E.Ok P) (hcl : Sound P cl) {ops : Array Oper} (hreg : regOk ops = true) : ∀ (sc : Sd) (L S R : List Nat) (T : Lts) (st : St) (K : St → Out), LtN P nt ops L T → (∀ k ∈ altsD sc, k ∉ ksT T) → Apt ops S R → drwF.altF E cl nt fp (gsO ops) ops sc L S R T st K = some x → ∀ k ∈ altsD sc, DrX P nt ops L S R T st (fun st' => K st' = some x) k
  | .fin, L, S, R, T, st, K, hT, hoff, hapt, h => by intro k hk; simp [altsD] at hk
  | .reg i r, L, S, R, T, st, K, hT, hoff, hapt, h => by intro k hk; simp [altsD] at hk
  | .take i r, L, S, R, T, st, K, hT, hoff, hapt, h => by intro k hk; simp [altsD] at hk
  | .one j S' R' r, L, S, R, T, st, K, hT, hoff, hapt, h => by
    simp only [drwF.altF] at h
    split at h
    · rename_i o q ho
      replace h := sB_some h
      obtain ⟨h1, h⟩ := h
      simp only [Bool.and_eq_true] at h1
      obtain ⟨⟨⟨h3, h4⟩, h5⟩, h5'⟩ := h1
      have e3 := eqNL_eq h3
      have e4 := eqNL_eq h4
      intro k hk
      simp only [altsD, List.mem_singleton] at hk
      subst hk
      refine ⟨o, drop_get ho, by rw [e4]; exact h5, h5', one_ok hE hcl (drop_get ho) (regOk_get hreg (drop_get ho)).2.1 h (fun st' hr hs => ?_)⟩
      obtain ⟨g1, g2⟩ := stls_fok hE hr hs
      rw [e3, e4]
      exact ⟨g1, drw_fok hE hcl hreg r _ S' R' _ st' K (hT.step (hoff k (by simp [altsD]))) (by rw [← e3, ← e4]; exact apt_rest hapt k) g2⟩
    · exact absurd h (by simp)
  | .two j S' R' r m, L, S, R, T, st, K, hT, hoff, hapt, h => by
    simp only [drwF.altF] at h
    split at h
    · rename_i o q ho
      replace h := sB_some h
      obtain ⟨h1, h⟩ := h
      simp only [Bool.and_eq_true] at h1
      obtain ⟨⟨⟨h3, h4⟩, h5⟩, h5'⟩ := h1
      have e3 := eqNL_eq h3
      have e4 := eqNL_eq h4
      obtain ⟨h6, h7⟩ := eqO_some h
      intro k hk
      rcases List.mem_cons.1 hk with e | e
      · subst e
        refine ⟨o, drop_get ho, by rw [e4]; exact h5, h5', one_ok hE hcl (drop_get ho) (regOk_get hreg (drop_get ho)).2.1 h6 (fun st' hr hs => ?_)⟩
        obtain ⟨g1, g2⟩ := stls_fok hE hr hs
        rw [e3, e4]
        exact ⟨g1, drw_fok hE hcl hreg r _ S' R' _ st' K (hT.step (hoff k (by simp [altsD]))) (by rw [← e3, ← e4]; exact apt_rest hapt k) g2⟩
      · exact alt_fok hE hcl hreg m L S R T st K hT (fun k hk => hoff k (by simp [altsD, hk])) hapt h7 k e
    · exact absurd h (by simp)
end

/-! ### Statements -/
theorem itr_fok {x : Res × Bxs} {body : St → (PX → St → Out) → Out} {nk kp : List Nat} {c : Code}
    (hb : ∀ (st : St) (K : PX → St → Out), body st K = some x → PW P nt nB c st (fun e s => K e s = some x)) : ∀ (n : Nat) (st : St) (K : PX → St → Out), itr body nB nk kp n st K = some x → PW P nt nB (.loop c) st (fun e s => K e s = some x) := by
  intro n st K h
  refine PW.loop (σ := Nat) (fun k st' => ∃ st2, Wk nB st' st2 ∧ itr body nB nk kp k st2 K = some x) id n ⟨st, Wk.refl _, h⟩ (fun k st' hk => ?_)
  obtain ⟨st2, hw, hk⟩ := hk
  cases k with
  | zero => exact absurd hk (by simp [itr])
  | succ k =>
    simp only [itr] at hk
    refine PW.wk hw ((hb st2 _ hk).mono (fun e s he => ?_))
    cases e with
    | normal => exact ⟨k, ⟨s.norm nB nk kp, Wk.norm _ _ _, he⟩, Nat.lt_succ_self k⟩
    | exit id => exact he
    | ret => exact he

theorem exec_fok {x : Res × Bxs} (hE : E.Ok P) (hcl : Sound P cl) : ∀ (pl : Pl) (c : Code) (st : St) (K : PX → St → Out), exec E cl nt nB fp pl c st K = some x → PW P nt nB c st (fun e s => K e s = some x)
  | .leaf, c, st, K, h => by
    cases c with
    | skip => exact PW.skip h
    | label l => exact PW.label h
    | exit id => exact PW.exit h
    | ret => exact PW.ret h
    | region id ops d =>
      cases d with
      | false => exact PW.ofRun hE hcl h
      | true => exact absurd h (by simp [exec])
    | _ => exact absurd h (by simp [exec])
  | .draw s, c, st, K, h => by
    cases c with
    | region id ops d =>
      cases d with
      | false => exact absurd h (by simp [exec])
      | true =>
        obtain ⟨hreg, h⟩ := sB_some (show sB (regOk ops) _ = some x from h)
        exact PW.dregV hE.mx hreg (drw_fok hE hcl hreg s [] [] [] [] st _ ⟨⟨by simp, by simp, by simp, by simp⟩, by simp, by simp⟩ (by simp [Apt]) h)
    | _ => exact absurd h (by simp [exec])
  | .late l s, c, st, K, h => by
    cases c with
    | region id ops d =>
      cases d with
      | false => exact absurd h (by simp [exec])
      | true =>
        obtain ⟨hreg, h⟩ := sB_some (show sB (regOk ops) _ = some x from h)
        obtain ⟨T, hT, h⟩ := sO_some h
        obtain ⟨g1, g2⟩ := lateT_ok hE hT
        exact PW.dregV hE.mx hreg (drw_fok hE hcl hreg s [] [] [] T st _ ⟨g1, g2, by simp⟩ (by simp [Apt]) h)
    | _ => exact absurd h (by simp [exec])
  | .seq p k q, c, st, K, h => by
    cases c with
    | seq a b =>
      refine PW.seq (fun K1 hK => ?_)
      refine (exec_fok hE hcl p a st _ h).mono (fun e s he => ?_)
      cases e with
      | normal => exact hK s (PW.wk (Wk.norm s fp.nk k) (exec_fok hE hcl q b (s.norm nB fp.nk k) K he))
      | exit id => exact he
      | ret => exact he
    | _ => exact absurd h (by simp [exec])
  | .cond k p q, c, st, K, h => by
    cases c with
    | cond t a b =>
      cases t with
      | tmp t =>
        simp only [exec] at h
        split at h
        · rename_i v hv
          rcases cond_some h with ⟨e, h⟩ | ⟨e, h⟩
          · exact PW.cond hv (fun _ => PW.wk (Wk.norm st fp.nk k) (exec_fok hE hcl p a _ K h)) (fun e2 => by rw [e] at e2; simp at e2)
          · exact PW.cond hv (fun e2 => by rw [e] at e2; simp at e2) (fun _ => PW.wk (Wk.norm st fp.nk k) (exec_fok hE hcl q b _ K h))
        · exact absurd h (by simp)
      | _ => exact absurd h (by simp [exec])
    | _ => exact absurd h (by simp [exec])
  | .one p, c, st, K, h => by
    cases c with
    | block id c =>
      refine PW.block ((exec_fok hE hcl p c st _ h).mono (fun e s he => ?_))
      cases e with
      | normal => exact he
      | ret => exact he
      | exit id' =>
        simp only [blkK] at he
        simp only [blkQ]
        split at he
        · rename_i e; rw [if_pos (beq_nat e)]; exact he
        · rename_i e; rw [if_neg (fun q => by subst q; simp at e)]; exact he
    | _ => exact absurd h (by simp [exec])
  | .loop k p, c, st, K, h => by
    cases c with
    | loop c => exact PW.wk (Wk.norm st fp.nk k) (itr_fok (fun st K h => exec_fok hE hcl p c st K h) E.fu _ K h)
    | _ => exact absurd h (by simp [exec])
  | .frz t p, c, st, K, h => by
    have h : (match lk st.v t with
      | .ptr k 0 => (match st.B[k]? with
        | some (some (.box ds)) => npG ds (exec E cl nt nB fp p c (st.frz k ds) K)
        | _ => none)
      | _ => none) = some x := by cases c <;> exact h
    split at h
    · rename_i k hk
      split at h
      · rename_i ds hds
        replace h := npG_some h
        obtain ⟨hnp, h⟩ := h
        refine PW.wk (fun γ ω w nt a hr => ?_) (exec_fok hE hcl p c _ K h)
        obtain ⟨ω', g1, g2⟩ := hr.frz hds hnp
        exact ⟨γ, ω', g1.toN, g2⟩
      · exact absurd h (by simp)
    · exact absurd h (by simp)
  | .shr ts p, c, st, K, h => by
    have h : (sO (st.shrs (ts.map .tmp)) fun st' => exec E cl nt nB fp p c st' K) = some x := by cases c <;> exact h
    obtain ⟨st', hs, h⟩ := sO_some h
    refine PW.wk (fun γ ω w nt a hr => ?_) (exec_fok hE hcl p c _ K h)
    obtain ⟨ω', g1, g2⟩ := hr.shrs _ hs
    exact ⟨γ, ω', g1.toN, g2⟩
  | .own l p, c, st, K, h => by
    have h : exec E cl nt nB fp p c (st.owns l) K = some x := by cases c <;> exact h
    refine PW.wk (fun γ ω w nt a hr => ?_) (exec_fok hE hcl p c _ K h)
    obtain ⟨γ', ω', g1, g2⟩ := hr.owns l
    exact ⟨γ', ω', g1.toN, g2⟩
  | .cut p, c, st, K, h => by
    have h : exec E cl nt nB fp p c st K = some x := by cases c <;> exact h
    exact exec_fok hE hcl p c st K h

/-! ### Functions -/
def ExtOk (P : Program) (X : XT) : Prop := ∀ g h, lkN X g = some h → ∀ cl, Sound P cl → ∀ args B r B', h cl args B = some (r, B') → SpecB P g args B r B'
theorem ext_nil {P : Program} : ExtOk P [] := fun g h hx => by simp [lkN] at hx
theorem ext_cons {P : Program} {k : Nat} {h : Cl → List MV → Bxs → Out} {X : XT} (h1 : ∀ cl, Sound P cl → ∀ args B r B', h cl args B = some (r, B') → SpecB P k args B r B') (h2 : ExtOk P X) : ExtOk P ((k, h) :: X) := by
  intro g h' hx
  unfold lkN at hx
  cases e : Nat.beq k g with
  | true => rw [e] at hx; cases hx; rw [← Nat.eq_of_beq_eq_true e]; exact h1
  | false => rw [e] at hx; exact h2 g h' hx

theorem evalF_sound (hE : E.Ok P) {X : XT} (hX : ExtOk P X) : ∀ n, Sound P (evalF P E X n)
  | 0 => fun v g args B r B' h => by simp [evalF] at h
  | n + 1 => fun v g args B r B' h => by
    have ih := evalF_sound hE hX n
    simp only [evalF] at h
    split at h
    · rename_i hh hx
      exact hX g hh hx _ ih args B r B' h
    · split at h
      · exact absurd h (by simp)
      rename_i fn hfn
      split at h
      · exact absurd h (by simp)
      rename_i c hc
      split at h
      · exact absurd h (by simp)
      rename_i fp hfp
      replace h := sB_some h
      obtain ⟨h1, h⟩ := h
      simp only [Bool.and_eq_true, Bool.not_eq_true'] at h1
      have hp := exec_fok (nt := fn.ntmps) (nB := B.length) (fp := fp) hE ih fp.pl c _ _ h
      exact spec_of hE hfn hc h1.1 (ble_nat h1.2) hp

end
end Go.Pv
