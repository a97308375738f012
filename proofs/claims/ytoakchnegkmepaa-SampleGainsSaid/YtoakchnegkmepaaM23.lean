/- A library of this session: regions whose order is open: what may wait, and the rules. -/
import Derived.Test.YtoakchnegkmepaaM22
set_option linter.unusedVariables false
set_option linter.unusedSimpArgs false
namespace Go.Pv

def wantP (ops : Array Oper) (st : St) (o : Oper) : Option Bool :=
  match o.guard with
  | none => some true
  | some (j, want) => match (ops[j]?).bind (·.dst) with
    | some d => match lk st.v d with
      | .sh (.bool b) => some (b == want)
      | .sh (.tup []) => some false
      | _ => none
    | none => none

/-- Done now, the operation comes to what its slot holds already. -/
def StillO (P : Program) (nt : Nat) (ops : Array Oper) (st : St) (o : Oper) (d : Nat) : Prop :=
  d < nt ∧ pureK o.op = true ∧ isShD (lk st.v d) = true ∧ (match wantP ops st o with
    | some true => pureP P st o.op (fun c => c = lk st.v d)
    | some false => lk st.v d = .sh (.tup [])
    | none => False)

def Still (P : Program) (nt : Nat) (ops : Array Oper) (st : St) (i : Nat) : Prop :=
  match ops[i]? with
  | some o => match o.dst with
    | some d => StillO P nt ops st o d
    | none => False
  | none => False

def stillAll (P : Program) (nt : Nat) (ops : Array Oper) (st : St) : List Nat → Prop
  | [] => True
  | i :: r => Still P nt ops st i ∧ stillAll P nt ops st r

theorem stillAll_get {P : Program} {nt : Nat} {ops : Array Oper} {st : St} : ∀ {l : List Nat}, stillAll P nt ops st l → ∀ i ∈ l, Still P nt ops st i
  | [], _, i, hi => by simp at hi
  | j :: r, h, i, hi => by
    rcases List.mem_cons.1 hi with e | e
    · rw [e]; exact h.1
    · exact stillAll_get h.2 i e

theorem Still.get {P : Program} {nt : Nat} {ops : Array Oper} {st : St} {i : Nat} (h : Still P nt ops st i) : ∃ o d, ops[i]? = some o ∧ o.dst = some d ∧ StillO P nt ops st o d := by
  unfold Still at h
  split at h
  · rename_i o ho
    split at h
    · rename_i d hd; exact ⟨o, d, ho, hd, h⟩
    · exact h.elim
  · exact h.elim

def dstN (ops : Array Oper) (i : Nat) : Option Nat := (ops[i]?).bind (·.dst)

def dss (ops : Array Oper) : List Nat → List Nat
  | [] => []
  | i :: r => match dstN ops i with
    | some d => d :: dss ops r
    | none => dss ops r

theorem dss_mem {ops : Array Oper} : ∀ {D : List Nat} {s : Nat}, memN (dss ops D) s = true ↔ ∃ i ∈ D, dstN ops i = some s
  | [], s => by simp [dss, memN]
  | i :: r, s => by
    have ih := dss_mem (ops := ops) (D := r) (s := s)
    cases hd : dstN ops i with
    | none =>
      simp only [dss, hd, ih]
      constructor
      · rintro ⟨j, h1, h2⟩; exact ⟨j, List.mem_cons_of_mem _ h1, h2⟩
      · rintro ⟨j, h1, h2⟩
        rcases List.mem_cons.1 h1 with e | e
        · subst e; rw [hd] at h2; simp at h2
        · exact ⟨j, e, h2⟩
    | some d =>
      simp only [dss, hd, memN]
      by_cases h : d = s
      · simp only [h, if_true, true_iff]; exact ⟨i, by simp, by rw [hd, h]⟩
      · simp only [h, if_false, ih]
        constructor
        · rintro ⟨j, h1, h2⟩; exact ⟨j, List.mem_cons_of_mem _ h1, h2⟩
        · rintro ⟨j, h1, h2⟩
          rcases List.mem_cons.1 h1 with e | e
          · subst e; rw [hd] at h2; injection h2 with h2; exact absurd h2 h
          · exact ⟨j, e, h2⟩

/-- None reads what a later one of the list writes; no two write the same. The newest stands first. -/
def Srt (ops : Array Oper) : List Nat → Prop
  | [] => True
  | i :: r => (∀ j ∈ i :: r, ∀ o d, ops[j]? = some o → dstN ops i = some d → d ∉ o.looksAt ops) ∧ (∀ j ∈ r, dstN ops j ≠ dstN ops i) ∧ Srt ops r

section
variable {P : Program} {γ : List Nat} {ω : Own} {w : World} {nt : Nat} {st st' : St} {a : Act} {ops : Array Oper}

theorem operand_looks {o : Oper} {t : Nat} (h : Operand.tmp t ∈ o.op.operands) : t ∈ o.looksAt ops :=
  List.mem_append_left _ (List.mem_filterMap.2 ⟨.tmp t, by simpa using h, rfl⟩)

theorem guard_looks {o : Oper} {j : Nat} {want : Bool} (hg : o.guard = some (j, want)) {d : Nat} (hd : (ops[j]?).bind (·.dst) = some d) : d ∈ o.looksAt ops := by
  refine List.mem_append_right _ ?_
  rw [hg]; simp [hd]

theorem Less.want {ds : List Nat} (h : Less ds st st') {o : Oper} (hx : ∀ t ∈ o.looksAt ops, memN ds t = false) : wantP ops st' o = wantP ops st o := by
  unfold wantP
  cases hg : o.guard with
  | none => rfl
  | some x =>
    obtain ⟨j, want⟩ := x
    simp only
    cases hd : (ops[j]?).bind (·.dst) with
    | none => rfl
    | some d => simp only; rw [h.lkx (hx d (guard_looks hg hd))]

theorem StillO.less {ds : List Nat} (h : Less ds st st') {o : Oper} {d : Nat} (hx : ∀ t ∈ o.looksAt ops, memN ds t = false) (hd : memN ds d = false) (hs : StillO P nt ops st o d) : StillO P nt ops st' o d := by
  obtain ⟨h1, h2, h3, h4⟩ := hs
  refine ⟨h1, h2, by rw [h.lkx hd]; exact h3, ?_⟩
  rw [h.want hx, h.lkx hd]
  split at h4
  · exact h.pure h2 (fun x hxx t e => hx t (operand_looks (by rw [← e]; exact hxx))) h4
  · exact h4
  · exact h4

theorem lk_put_dead {d : Nat} (hd : lk st.v d = .dead) {c : Ct} (hc : isShD c = true) (s : Nat) : lk (st.put d c).v s = if d = s then c else lk st.v s := by
  simp only [St.put, hd, lk_pt]
  cases c <;> simp [isShD] at hc <;> simp [Ct.refs]

/-- Values for what waits. -/
theorem fill : ∀ (D : List Nat) {st : St} {a : Act}, Srt ops D → (∀ i ∈ D, Still P nt ops st i) → Rel γ ω w nt ⟨killL (dss ops D) st.v, st.B⟩ a → ∃ a', Rel γ ω w nt st a' ∧ Ag (dss ops D) a' a
  | [], st, a, _, _, h => ⟨a, h.ext rfl (fun s => by simp only [lk_killL]; simp [dss, memN]), Ag.refl _ _⟩
  | i :: r, st, a, hs, hst, h => by
    obtain ⟨h1, h2, h3⟩ := hs
    obtain ⟨o, d, ho, hd, hso⟩ := (hst i (by simp)).get
    have hdn : dstN ops i = some d := by simp [dstN, ho, hd]
    have hds : dss ops (i :: r) = d :: dss ops r := by simp [dss, hdn]
    have hl : Less [d] st ⟨killL [d] st.v, st.B⟩ := less_kill (fun s hs => by
      have : s = d := by simpa [memN, eq_comm] using hs
      subst this; exact hso.2.2.1)
    have hnl : ∀ j ∈ i :: r, ∀ o, ops[j]? = some o → ∀ t ∈ o.looksAt ops, memN [d] t = false := by
      intro j hj o' ho' t ht
      have := h1 j hj o' d ho' hdn
      have hne : d ≠ t := fun e => this (e ▸ ht)
      simp [memN, hne]
    have hst1 : ∀ j ∈ r, Still P nt ops ⟨killL [d] st.v, st.B⟩ j := by
      intro j hj
      obtain ⟨o', d', ho', hd', hso'⟩ := (hst j (List.mem_cons_of_mem _ hj)).get
      have hdj : dstN ops j = some d' := by simp [dstN, ho', hd']
      have hne : d ≠ d' := fun e => h2 j hj (by rw [hdj, hdn, e])
      have := hso'.less hl (hnl j (List.mem_cons_of_mem _ hj) o' ho') (by simp [memN, hne])
      simp only [Still, ho', hd']; exact this
    obtain ⟨a1, hR1, hA1⟩ := fill r (st := ⟨killL [d] st.v, st.B⟩) h3 hst1 (h.ext rfl (fun s => by
      simp only [lk_killL, hds, memN]
      by_cases e : d = s
      · subst e; simp
      · simp [e]))
    have hdead : lk (killL [d] st.v) d = .dead := by rw [lk_killL]; simp [memN]
    have hlk : ∀ s, d ≠ s → lk (killL [d] st.v) s = lk st.v s := fun s e => by rw [lk_killL]; simp [memN, e]
    obtain ⟨g1, g2, g3, g4⟩ := hso
    split at g4
    · have hp := hl.pure g2 (fun x hxx t e => hnl i (by simp) o ho t (operand_looks (by rw [← e]; exact hxx))) g4
      obtain ⟨c, v, q1, q2, q3⟩ := pure_ok hR1 hp
      refine ⟨a1.put (some d) v, (hR1.put g1 (q2 (.slot d))).ext rfl (fun s => ?_), ⟨hA1.defers, by simp [Act.put, hA1.size], fun s hs => ?_⟩⟩
      · rw [lk_put_dead hdead (by rw [q3]; exact g3)]
        by_cases e : d = s
        · subst e; simp [q3]
        · simp only [e, if_false]; exact (hlk s e).symm
      · rw [hds] at hs
        by_cases e : d = s
        · subst e; simp [memN] at hs
        · simp only [memN, e, if_false] at hs
          simp only [Act.put]
          rw [Array.getElem?_setIfInBounds_ne e]
          exact hA1.same s hs
    · refine ⟨a1.put (some d) undef, (hR1.put g1 (c := .sh (.tup [])) rep_undef).ext rfl (fun s => ?_), ⟨hA1.defers, by simp [Act.put, hA1.size], fun s hs => ?_⟩⟩
      · rw [lk_put_dead hdead rfl]
        by_cases e : d = s
        · subst e; simp [g4]
        · simp only [e, if_false]; exact (hlk s e).symm
      · rw [hds] at hs
        by_cases e : d = s
        · subst e; simp [memN] at hs
        · simp only [memN, e, if_false] at hs
          simp only [Act.put]
          rw [Array.getElem?_setIfInBounds_ne e]
          exact hA1.same s hs
    · exact g4.elim

/-- The same operation from acts that differ in what it does not look at. -/
theorem wp_move {o : Oper} {ds : List Nat} {x y : Act} (hA : Ag ds x y) (hs : ∀ cs b, o.op ≠ .select cs b) (hl : ∀ t ∈ o.looksAt ops, memN ds t = false) {K : Act → World → Prop} {Q : Exit → Act → World → Prop}
    (h : o.wp P x w K (fun _ _ _ => False)) : o.wp P y w (fun y' w' => ∃ x', K x' w' ∧ Ag ds x' y') Q := by
  have he : execOp x.eval o = execOp y.eval o := execOp_congr o hs (fun z hz => hA.eval z (fun t e => hl t (operand_looks (by rw [← e]; exact hz))))
  unfold Oper.wp at h ⊢
  rw [he] at h
  generalize (execOp y.eval o).run P w = r at h
  cases r with
  | halt h' w' => cases h' <;> exact h.elim
  | ok n w' =>
    cases n with
    | value v => exact ⟨_, h, hA.put _ _⟩
    | skip => exact ⟨_, h, hA.put _ _⟩
    | defer d => exact ⟨_, h, (Ag.put (x := { x with defers := d :: x.defers }) (y := { y with defers := d :: y.defers }) ⟨by simp [hA.defers], hA.size, hA.same⟩ _ _)⟩
    | enter f args =>
      simp only [Oper.upon] at h ⊢
      refine Calls.mono h fun e w'' hh => ?_
      cases e with
      | returned v => exact ⟨_, hh, hA.put _ _⟩
      | panicked ch => exact hh.elim
      | outgrown => simp [LetsOut] at hh
    | row rw_ args =>
      simp only [Oper.upon] at h ⊢
      exact Rows.mono h fun v w'' hh => ⟨_, hh, hA.put _ _⟩
    | _ => exact h.elim

theorem gd_exec {fz : List Nat} {o : Oper} {k : Nat} (ho : ops[k]? = some o) (hs : ∀ cs b, o.op ≠ .select cs b) {K : St → Prop} (hx : gdP P nt fz ops o st K) {x : Act} (h : Rel γ ω w nt st x) {ds : List Nat} (hA : Ag ds x a) (hl : ∀ t ∈ o.looksAt ops, memN ds t = false) (Q : Exit → Act → World → Prop) :
    wpOp P ops Q k (fun a' w' => ∃ γ' ω' st' x', Chg NotOuter γ ω w γ' ω' w' ∧ Rel γ' ω' w' nt st' x' ∧ K st' ∧ Ag ds x' a') a w := by
  have fin : ∀ (hx : opP P nt fz o st K), o.wp P a w (fun a' w' => ∃ γ' ω' st' x', Chg NotOuter γ ω w γ' ω' w' ∧ Rel γ' ω' w' nt st' x' ∧ K st' ∧ Ag ds x' a') Q := by
    intro hx
    have := wp_move (ops := ops) hA hs hl (Q := Q) (op_ok h hx (fun _ _ _ => False))
    refine Oper.wp_mono (fun a' w' hh => ?_) this
    obtain ⟨x', ⟨γ', ω', st', h1, h2, h3⟩, h4⟩ := hh
    exact ⟨γ', ω', st', x', h1, h2, h3, h4⟩
  unfold wpOp
  simp only [ho]
  unfold gdP at hx
  split at hx
  · rename_i hg
    have hw : Region.wanted o (yielded ops a.tmps) = true := by simp [Region.wanted, hg]
    rw [if_pos hw]
    exact .inl (fin hx)
  · rename_i j want hg
    split at hx
    · rename_i d hd
      split at hx
      · rename_i b hb
        have hr : Rep γ ω w (.bool b) (x.eval (.tmp d)) := slot_rep h d hb
        have hv : x.tmps.getD d undef = .bool b := Val.bool (.inl hr)
        rw [hA.getD (hl d (guard_looks hg hd))] at hv
        have hsome : a.tmps[d]? = some (.bool b) := by
          rw [Array.getD_eq_getD_getElem?] at hv
          cases hq : a.tmps[d]? with
          | none => rw [hq] at hv; simp [undef] at hv
          | some u => rw [hq] at hv; simp at hv; rw [hv]
        have hy : yielded ops a.tmps j = some b := by
          unfold yielded
          rw [hd]
          simp [hsome]
        by_cases hbw : b = want
        · rw [if_pos hbw] at hx
          have hw : Region.wanted o (yielded ops a.tmps) = true := by simp [Region.wanted, hg, hy, hbw]
          rw [if_pos hw]
          exact .inl (fin hx)
        · rw [if_neg hbw] at hx
          have hw : Region.wanted o (yielded ops a.tmps) = false := by
            simp [Region.wanted, hg, hy]; exact hbw
          rw [if_neg (by rw [hw]; simp)]
          exact ⟨γ, ω, _, _, Chg.refl _ _ _ _, h.putO (dOk_iff hx.1) (c := .sh (.tup [])) (v := undef) (fun t _ => rep_undef), hx.2, hA.put _ _⟩
      · rename_i hb
        have hr : Rep γ ω w (.tup []) (x.eval (.tmp d)) := slot_rep h d hb
        have hv : x.tmps.getD d undef = .tuple #[] := rep_tup0 hr
        rw [hA.getD (hl d (guard_looks hg hd))] at hv
        have hy : yielded ops a.tmps j = none := by
          unfold yielded
          rw [hd]
          simp only [Option.bind_some]
          rw [Array.getD_eq_getD_getElem?] at hv
          cases hq : a.tmps[d]? with
          | none => rfl
          | some u => rw [hq] at hv; simp only [Option.getD_some] at hv; rw [hv]
        have hw : Region.wanted o (yielded ops a.tmps) = false := by
          simp [Region.wanted, hg, hy]
        rw [if_neg (by rw [hw]; simp)]
        exact ⟨γ, ω, _, _, Chg.refl _ _ _ _, h.putO (dOk_iff hx.1) (c := .sh (.tup [])) (v := undef) (fun t _ => rep_undef), hx.2, hA.put _ _⟩
      · exact hx.elim
    · exact hx.elim

end
end Go.Pv
