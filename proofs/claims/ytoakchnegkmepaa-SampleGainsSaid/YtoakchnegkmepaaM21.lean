/- A library of this session: statements, loops, and the road to a contract. -/
import Derived.Test.YtoakchnegkmepaaM20
set_option linter.unusedVariables false
set_option linter.unusedSimpArgs false
namespace Go.Pv

/-! ### Regions -/
theorem rep_undef {γ : List Nat} {ω : Own} {w : World} : Rep γ ω w (.tup []) undef := Rep.tup [] [] rfl (by simp)
theorem rep_tup0 {γ : List Nat} {ω : Own} {w : World} {v : Value} (h : Rep γ ω w (.tup []) v) : v = .tuple #[] := by
  cases h with
  | tup _ vs hl _ =>
    have : vs = [] := List.eq_nil_of_length_eq_zero (by simpa using hl)
    subst this; rfl
def gdP (P : Program) (nt : Nat) (fz : List Nat) (ops : Array Oper) (o : Oper) (st : St) (K : St → Prop) : Prop :=
  match o.guard with
  | none => opP P nt fz o st K
  | some (j, want) => match (ops[j]?).bind (·.dst) with
    | some d => match lk st.v d with
      | .sh (.bool b) => if b = want then opP P nt fz o st K else dOk o.dst nt ∧ K (putO st o.dst (.sh (.tup [])))
      | .sh (.tup []) => dOk o.dst nt ∧ K (putO st o.dst (.sh (.tup [])))
      | _ => False
    | none => False

def runP (P : Program) (nt : Nat) (fz : List Nat) (ops : Array Oper) : List Oper → St → (St → Prop) → Prop
  | [], st, K => K st
  | o :: r, st, K => gdP P nt fz ops o st (fun st' => runP P nt fz ops r st' K)

/-- What is kept behind a statement. -/
def keepC (keep : List Nat) : Ct → Ct
  | .al (.slot s) => if memN keep s then .al (.slot s) else .dead
  | .eadr (.slot s) i o => if memN keep s then .eadr (.slot s) i o else .dead
  | c => c

def keepS (keep : List Nat) : List (Nat × Ct) → List (Nat × Ct)
  | [] => []
  | (k, c) :: r => if memN keep k then (k, keepC keep c) :: keepS keep r else keepS keep r

theorem lk_keepS (keep : List Nat) (v : List (Nat × Ct)) (s : Nat) : lk (keepS keep v) s = if memN keep s then keepC keep (lk v s) else .dead := by
  induction v with
  | nil => simp [keepS, lk, keepC]
  | cons x r ih =>
    obtain ⟨k, c⟩ := x
    by_cases hk : memN keep k = true
    · have e : keepS keep ((k, c) :: r) = (k, keepC keep c) :: keepS keep r := by rw [keepS, if_pos hk]
      rw [e]
      by_cases h : k = s
      · subst h; rw [lk, if_pos rfl, if_pos hk, lk, if_pos rfl]
      · rw [lk, if_neg h, ih, lk, if_neg h]
    · have e : keepS keep ((k, c) :: r) = keepS keep r := by rw [keepS, if_neg hk]
      rw [e, ih]
      by_cases h : k = s
      · subst h; rw [if_neg hk, if_neg hk]
      · rw [lk, if_neg h]

def St.keep (st : St) (keep : List Nat) : St := { st with v := keepS keep st.v }

theorem Rel.keep {γ : List Nat} {ω : Own} {w : World} {nt : Nat} {st : St} {a : Act} (h : Rel γ ω w nt st a) (keep : List Nat) : Rel γ ω w nt (st.keep keep) a := by
  refine ⟨h.size, h.defers, h.lt, h.boxes, fun s => ?_⟩
  show CtRep γ ω w _ a.tmps (.slot s) (lk (keepS keep st.v) s) _
  rw [lk_keepS]
  by_cases hs : memN keep s = true
  · rw [if_pos hs]
    have hold := h.slots s
    cases hc : lk st.v s with
    | al p =>
      cases p with
      | slot s1 =>
        simp only [keepC]
        by_cases h1 : memN keep s1 = true
        · rw [if_pos h1]
          rw [hc] at hold
          obtain ⟨⟨sz, m, h2⟩, h3⟩ := hold
          refine ⟨⟨sz, m, ?_⟩, h3⟩
          simp only [St.at, St.keep] at h2 ⊢
          rw [lk_keepS, if_pos h1, h2]; rfl
        · rw [if_neg h1]; trivial
      | cell k off => rw [hc] at hold; exact hold
    | eadr p i o =>
      cases p with
      | slot s1 =>
        simp only [keepC]
        by_cases h1 : memN keep s1 = true
        · rw [if_pos h1]
          rw [hc] at hold
          obtain ⟨sz, es, u, blk, h2, h3, h4, h5, h6⟩ := hold
          refine ⟨sz, es, u, blk, ?_, h3, h4, h5, h6⟩
          simp only [St.at, St.keep] at h2 ⊢
          rw [lk_keepS, if_pos h1, h2]; rfl
        · rw [if_neg h1]; trivial
      | cell k off => rw [hc] at hold; exact hold
    | sh m => rw [hc] at hold; exact hold
    | own sz m => rw [hc] at hold; exact hold
    | tupc cs => rw [hc] at hold; exact hold
    | siter s' pos => rw [hc] at hold; exact hold
    | dead => trivial
  · rw [if_neg hs]; trivial

section
variable {P : Program} {γ : List Nat} {ω : Own} {w : World} {nt : Nat} {st : St} {a : Act}

theorem step_ok {fz : List Nat} {ops : Array Oper} {i : Nat} {o : Oper} (ho : ops[i]? = some o) (h : Rel γ ω w nt st a) {K : St → Prop} (hx : gdP P nt fz ops o st K) (Q : Exit → Act → World → Prop) (rest : List Nat)
    (hnext : ∀ γ' ω' w' st' a', Chg NotOuter γ ω w γ' ω' w' → Rel γ' ω' w' nt st' a' → K st' → wpOps P ops Q rest a' w') : wpOps P ops Q (i :: rest) a w := by
  simp only [wpOps, ho]
  unfold gdP at hx
  split at hx
  · rename_i hg
    have hw : Region.wanted o (yielded ops a.tmps) = true := by simp [Region.wanted, hg]
    rw [if_pos hw]
    refine .inl ?_
    have := op_ok h hx Q
    unfold Oper.wp at this ⊢
    revert this
    generalize (execOp a.eval o).run P w = r
    intro this
    cases r with
    | halt h' w' => cases h' <;> first | exact this | exact this.elim
    | ok n w' =>
      cases n with
      | value v => simp only [Oper.upon] at this ⊢; obtain ⟨γ', ω', st', h1, h2, h3⟩ := this; exact hnext _ _ _ _ _ h1 h2 h3
      | skip => simp only [Oper.upon] at this ⊢; obtain ⟨γ', ω', st', h1, h2, h3⟩ := this; exact hnext _ _ _ _ _ h1 h2 h3
      | defer d => simp only [Oper.upon] at this ⊢; obtain ⟨γ', ω', st', h1, h2, h3⟩ := this; exact hnext _ _ _ _ _ h1 h2 h3
      | enter f args =>
        simp only [Oper.upon] at this ⊢
        refine this.mono fun e w'' hh => ?_
        cases e with
        | returned v => obtain ⟨γ', ω', st', h1, h2, h3⟩ := hh; exact hnext _ _ _ _ _ h1 h2 h3
        | panicked ch => exact hh
        | outgrown => exact hh
      | row rw_ args =>
        simp only [Oper.upon] at this ⊢
        refine this.mono fun v w'' hh => ?_
        obtain ⟨γ', ω', st', h1, h2, h3⟩ := hh; exact hnext _ _ _ _ _ h1 h2 h3
      | _ => exact this.elim
  · rename_i j want hg
    split at hx
    · rename_i d hd
      split at hx
      · rename_i b hb
        have hr : Rep γ ω w (.bool b) (a.eval (.tmp d)) := slot_rep h d hb
        have hv : a.tmps.getD d undef = .bool b := by
          have := (Val.bool (.inl hr)); exact this
        have hsome : a.tmps[d]? = some (.bool b) := by
          rw [Array.getD_eq_getD_getElem?] at hv
          cases hq : a.tmps[d]? with
          | none => rw [hq] at hv; simp [undef] at hv
          | some u => rw [hq] at hv; simp at hv; rw [hv]
        have hy : yielded ops a.tmps j = some b := by
          unfold yielded
          rw [hd]
          simp [hsome]
        by_cases hbw : b = want
        · rw [if_pos hbw] at hx
          have hw : Region.wanted o (yielded ops a.tmps) = true := by simp [Region.wanted, hg, hy, hbw]
          rw [if_pos hw]
          refine .inl ?_
          have := op_ok h hx Q
          unfold Oper.wp at this ⊢
          revert this
          generalize (execOp a.eval o).run P w = r
          intro this
          cases r with
          | halt h' w' => cases h' <;> first | exact this | exact this.elim
          | ok n w' =>
            cases n with
            | value v => simp only [Oper.upon] at this ⊢; obtain ⟨γ', ω', st', h1, h2, h3⟩ := this; exact hnext _ _ _ _ _ h1 h2 h3
            | skip => simp only [Oper.upon] at this ⊢; obtain ⟨γ', ω', st', h1, h2, h3⟩ := this; exact hnext _ _ _ _ _ h1 h2 h3
            | defer d => simp only [Oper.upon] at this ⊢; obtain ⟨γ', ω', st', h1, h2, h3⟩ := this; exact hnext _ _ _ _ _ h1 h2 h3
            | enter f args =>
              simp only [Oper.upon] at this ⊢
              refine this.mono fun e w'' hh => ?_
              cases e with
              | returned v => obtain ⟨γ', ω', st', h1, h2, h3⟩ := hh; exact hnext _ _ _ _ _ h1 h2 h3
              | panicked ch => exact hh
              | outgrown => exact hh
            | row rw_ args =>
              simp only [Oper.upon] at this ⊢
              refine this.mono fun v w'' hh => ?_
              obtain ⟨γ', ω', st', h1, h2, h3⟩ := hh; exact hnext _ _ _ _ _ h1 h2 h3
            | _ => exact this.elim
        · rw [if_neg hbw] at hx
          have hw : Region.wanted o (yielded ops a.tmps) = false := by
            simp [Region.wanted, hg, hy]; exact hbw
          rw [if_neg (by rw [hw]; simp)]
          exact hnext _ _ _ _ _ (Chg.refl _ _ _ _) (h.putO (dOk_iff hx.1) (c := .sh (.tup [])) (fun t _ => rep_undef)) hx.2
      · rename_i hb
        have hr : Rep γ ω w (.tup []) (a.eval (.tmp d)) := slot_rep h d hb
        have hv : a.tmps.getD d undef = .tuple #[] := rep_tup0 hr
        have hy : yielded ops a.tmps j = none := by
          unfold yielded
          rw [hd]
          simp only [Option.bind_some]
          rw [Array.getD_eq_getD_getElem?] at hv
          cases hq : a.tmps[d]? with
          | none => rfl
          | some u => rw [hq] at hv; simp only [Option.getD_some] at hv; rw [hv]
        have hw : Region.wanted o (yielded ops a.tmps) = false := by
          simp [Region.wanted, hg, hy]
        rw [if_neg (by rw [hw]; simp)]
        exact hnext _ _ _ _ _ (Chg.refl _ _ _ _) (h.putO (dOk_iff hx.1) (c := .sh (.tup [])) (fun t _ => rep_undef)) hx.2
      · exact hx.elim
    · exact hx.elim

theorem run_ok {fz : List Nat} {ops : Array Oper} : ∀ (l : List Oper) (i : Nat), ops.toList.drop i = l → ∀ {γ : List Nat} {ω : Own} {w : World} {st : St} {a : Act}, Rel γ ω w nt st a → ∀ {K : St → Prop}, runP P nt fz ops l st K → ∀ (Q : Exit → Act → World → Prop),
    (∀ γ' ω' w' st' a', Chg NotOuter γ ω w γ' ω' w' → Rel γ' ω' w' nt st' a' → K st' → Q .normal a' w') → wpOps P ops Q (List.range' i l.length) a w
  | [], i, hl, γ, ω, w, st, a, h, K, hx, Q, hq => by
    simp only [List.length_nil, List.range'_zero, wpOps]
    exact hq _ _ _ _ _ (Chg.refl _ _ _ _) h hx
  | o :: r, i, hl, γ, ω, w, st, a, h, K, hx, Q, hq => by
    have ho : ops[i]? = some o := by
      have := congrArg (fun l => l[0]?) hl
      simpa [List.getElem?_drop] using this
    have hr : ops.toList.drop (i + 1) = r := by
      rw [← List.drop_drop, hl]; rfl
    simp only [List.length_cons, List.range'_succ]
    refine step_ok ho h hx Q _ (fun γ' ω' w' st' a' h1 h2 h3 => ?_)
    exact run_ok r (i + 1) hr h2 h3 Q (fun γ2 ω2 w2 st2 a2 g1 g2 g3 => hq _ _ _ _ _ (h1.trans g1) g2 g3)
end

/-! ### Statements -/
inductive PX where
  | normal
  | exit (id : Nat)
  | ret

def PX.toExit : PX → Exit
  | .normal => .normal
  | .exit id => .exit id
  | .ret => .ret

/-- From these contents the code comes to Q. -/
def PW (P : Program) (nt : Nat) (c : Code) (st : St) (Q : PX → St → Prop) : Prop :=
  ∀ (γ : List Nat) (ω : Own) (w : World) (a : Act) (R : Exit → Act → World → Prop), Rel γ ω w nt st a →
    (∀ e γ' ω' w' st' a', Chg NotOuter γ ω w γ' ω' w' → Rel γ' ω' w' nt st' a' → Q e st' → R (PX.toExit e) a' w') → c.wp P R a w

def thenQ (K : St → Prop) (Q : PX → St → Prop) : PX → St → Prop
  | .normal, st => K st
  | e, st => Q e st

def blkQ (id : Nat) (Q : PX → St → Prop) : PX → St → Prop
  | .exit id', st => if id' = id then Q .normal st else Q (.exit id') st
  | e, st => Q e st

section
variable {P : Program} {nt : Nat} {st : St} {Q : PX → St → Prop}

theorem PW.mono {c : Code} {Q' : PX → St → Prop} (h : PW P nt c st Q) (hq : ∀ e st, Q e st → Q' e st) : PW P nt c st Q' :=
  fun γ ω w a R hr hk => h γ ω w a R hr (fun e γ' ω' w' st' a' h1 h2 h3 => hk e γ' ω' w' st' a' h1 h2 (hq _ _ h3))

theorem PW.skip (h : Q .normal st) : PW P nt .skip st Q := fun γ ω w a R hr hk => wp_skip (hk .normal _ _ _ _ _ (Chg.refl _ _ _ _) hr h)
theorem PW.label {l : Nat} (h : Q .normal st) : PW P nt (.label l) st Q := fun γ ω w a R hr hk => wp_label (hk .normal _ _ _ _ _ (Chg.refl _ _ _ _) hr h)
theorem PW.exit {id : Nat} (h : Q (.exit id) st) : PW P nt (.exit id) st Q := fun γ ω w a R hr hk => wp_exit (hk (.exit id) _ _ _ _ _ (Chg.refl _ _ _ _) hr h)
theorem PW.ret (h : Q .ret st) : PW P nt .ret st Q := fun γ ω w a R hr hk => wp_ret (hk .ret _ _ _ _ _ (Chg.refl _ _ _ _) hr h)

theorem PW.seq {x y : Code} (h : ∀ K : St → Prop, (∀ st, PW P nt y st Q → K st) → PW P nt x st (thenQ K Q)) : PW P nt (.seq x y) st Q := by
  intro γ ω w a R hr hk
  refine wp_seq (h (fun st => PW P nt y st Q) (fun _ h => h) γ ω w a _ hr (fun e γ' ω' w' st' a' h1 h2 h3 => ?_))
  cases e with
  | normal => exact h3 γ' ω' w' a' R h2 (fun e γ2 ω2 w2 st2 a2 g1 g2 g3 => hk e _ _ _ _ _ (h1.trans g1) g2 g3)
  | exit id => exact hk (.exit id) _ _ _ _ _ h1 h2 h3
  | ret => exact hk .ret _ _ _ _ _ h1 h2 h3

/-- A region; keep: the slots that are read later on. -/
theorem PW.region (fz keep : List Nat) {id : Nat} {ops : Array Oper} (h : runP P nt fz ops ops.toList st (fun st' => Q .normal (st'.keep keep))) : PW P nt (.region id ops false) st Q := by
  intro γ ω w a R hr hk
  refine wp_region ?_
  have := run_ok ops.toList 0 (by simp) hr h R (fun γ' ω' w' st' a' h1 h2 h3 => hk .normal _ _ _ _ _ h1 (h2.keep keep) h3)
  rw [List.range_eq_range']
  simpa using this

theorem PW.cond {t : Nat} {x y : Code} {b : Bool} (hb : lk st.v t = .sh (.bool b)) (ht : b = true → PW P nt x st Q) (hf : b = false → PW P nt y st Q) : PW P nt (.cond (.tmp t) x y) st Q := by
  intro γ ω w a R hr hk
  have hr' : Rep γ ω w (.bool b) (a.eval (.tmp t)) := slot_rep hr t hb
  refine wp_cond_split (Val.bool (.inl hr')) (fun e => ht e γ ω w a R hr hk) (fun e => hf e γ ω w a R hr hk)

theorem PW.block {id : Nat} {c : Code} (h : PW P nt c st (blkQ id Q)) : PW P nt (.block id c) st Q := by
  intro γ ω w a R hr hk
  refine wp_block (h γ ω w a _ hr (fun e γ' ω' w' st' a' h1 h2 h3 => ?_))
  cases e with
  | normal => exact hk .normal _ _ _ _ _ h1 h2 h3
  | ret => exact hk .ret _ _ _ _ _ h1 h2 h3
  | exit id' =>
    simp only [PX.toExit, Exit.inBlock]
    simp only [blkQ] at h3
    split at h3
    · rename_i e; rw [if_pos e]; exact hk .normal _ _ _ _ _ h1 h2 h3
    · rename_i e; rw [if_neg e]; exact hk (.exit id') _ _ _ _ _ h1 h2 h3

/-- Less is known. -/
theorem PW.weak {c : Code} (keep : List Nat) (h : PW P nt c (st.keep keep) Q) : PW P nt c st Q := fun γ ω w a R hr hk => h γ ω w a R (hr.keep keep) hk

/-- A loop: I with a ghost that goes down. -/
theorem PW.loop {σ : Type} (I : σ → St → Prop) (μ : σ → Nat) {c : Code} (s0 : σ) (h0 : I s0 st)
    (round : ∀ s st, I s st → PW P nt c st (thenQ (fun st' => ∃ s', I s' st' ∧ μ s' < μ s) Q)) : PW P nt (.loop c) st Q := by
  intro γ ω w a R hr hk b k cs
  have key : ∀ (n : Nat) (s : σ) (st : St) (γ' : List Nat) (ω' : Own) (w' : World) (a : Act), μ s = n → I s st → Chg NotOuter γ ω w γ' ω' w' → Rel γ' ω' w' nt st a →
      ∃ e a' w'', R e a' w'' ∧ Arrives P (lone (b.at a (.code c :: .inLoop c :: k)) cs w') b k cs e a' w'' := by
    intro n
    induction n using Nat.strongRecOn with
    | _ n ih =>
      intro s st γ' ω' w' a hn hI hc hr'
      have hrd := round s st hI γ' ω' w' a (fun e a' w'' => (∃ γ2 ω2 st2 s', e = .normal ∧ Chg NotOuter γ ω w γ2 ω2 w'' ∧ Rel γ2 ω2 w'' nt st2 a' ∧ I s' st2 ∧ μ s' < μ s) ∨ (e ≠ .normal ∧ R e a' w'')) hr'
        (fun e γ2 ω2 w2 st2 a2 g1 g2 g3 => by
          cases e with
          | normal => obtain ⟨s', h1, h2⟩ := g3; exact .inl ⟨γ2, ω2, st2, s', rfl, hc.trans g1, g2, h1, h2⟩
          | exit id => exact .inr ⟨by simp [PX.toExit], hk (.exit id) _ _ _ _ _ (hc.trans g1) g2 g3⟩
          | ret => exact .inr ⟨by simp [PX.toExit], hk .ret _ _ _ _ _ (hc.trans g1) g2 g3⟩)
      obtain ⟨e, a₁, w₁, hq, harr⟩ := hrd b (.inLoop c :: k) cs
      rcases hq with ⟨γ2, ω2, st2, s', rfl, hc2, hr2, hI2, hlt⟩ | ⟨hne, hq⟩
      · obtain ⟨e₂, a₂, w₂, hq₂, harr₂⟩ := ih (μ s') (hn ▸ hlt) s' st2 γ2 ω2 w₁ a₁ rfl hI2 hc2 hr2
        exact ⟨e₂, a₂, w₂, hq₂, .of_steps (Steps.trans harr (.one step_inLoop)) harr₂⟩
      · exact ⟨e, a₁, w₁, hq, .pass (x := .inLoop c) rfl (fun _ _ => .inl hne) harr⟩
  obtain ⟨e, a', w', hq, harr⟩ := key _ s0 st γ ω w a rfl h0 (Chg.refl _ _ _ _) hr
  exact ⟨e, a', w', hq, .of_steps (.one step_loop) harr⟩

end

/-! ### The road to a contract -/
/-- What a result's slot must hold. -/
def resI : Ct → Option Nat × MV → Prop
  | .sh m', (none, m) => m' = m ∨ m'.top = m
  | .own sz m', (some sz', m) => sz = sz' ∧ m' = m
  | .sh .nil, (some _, .list []) => True
  | _, _ => False

/-- What a result's place in memory must hold. -/
def resM : Ct → Option Nat × MV → Prop
  | .sh m', (none, m) => m' = m ∨ m'.top = m
  | _, _ => False

def resP (P : Program) (st : St) : List ResultVar → Res → Prop
  | [], [] => True
  | .tmp s :: r, x :: q => resI (lk st.v s) x ∧ resP P st r q
  | .cell s T :: r, x :: q => loadP P st T (.tmp s) (fun c => resM c x) ∧ resP P st r q
  | _, _ => False

def postP (P : Program) (rs : List ResultVar) (r : Res) : PX → St → Prop
  | .normal, st' | .ret, st' => resP P st' rs r
  | _, _ => False

def argsV : Nat → List MV → List (Nat × Ct)
  | _, [] => []
  | i, m :: r => (i, .sh m) :: argsV (i + 1) r

theorem lk_argsV : ∀ (ms : List MV) (i s : Nat), lk (argsV i ms) s = if i ≤ s then (match ms[s - i]? with | some m => .sh m | none => .dead) else .dead
  | [], i, s => by simp [argsV, lk]
  | m :: r, i, s => by
    simp only [argsV, lk]
    by_cases h : i = s
    · subst h; simp
    · rw [if_neg h, lk_argsV r (i + 1) s]
      by_cases h1 : i ≤ s
      · rw [if_pos h1, if_pos (by omega), show s - i = (s - (i + 1)) + 1 from by omega]; rfl
      · rw [if_neg h1, if_neg (by omega)]

/-- The value of a result's variable. -/
def rvS (tmps : Array Value) : ResultVar → Sem Value
  | .tmp t => pure (tmps.getD t undef)
  | .cell c t => do loadVar t (← asAddr (tmps.getD c undef))

theorem results_run {P : Program} {w : World} {fn : Func} {tmps : Array Value} {vs : List Value} (h : (fn.results.toList.mapM (rvS tmps)).run P w = .ok vs w) : ∃ v, (results fn tmps).run P w = .ok v w ∧ (∀ u, vs = [u] → v = u) ∧ (vs.length ≠ 1 → v = .tuple vs.toArray) := by
  have e : results fn tmps = (do let x ← List.toArray <$> fn.results.toList.mapM (rvS tmps); pure (if h : x.size = 1 then x[0] else .tuple x)) := by
    unfold results
    rw [← Array.mapM_eq_mapM_toList]
    congr 1
  rw [e]
  refine ⟨if h : vs.toArray.size = 1 then vs.toArray[0] else .tuple vs.toArray, ?_, ?_, ?_⟩
  · simp only [Sem.run_bind, Sem.run_map, h, Result.andThen_ok, Sem.run_pure]
  · intro u hu; subst hu; rfl
  · intro hu; rw [dif_neg (by simpa using hu)]

/-- A result of a function: in a slot, or shared. -/
def resU (γ : List Nat) (ω : Own) (w : World) (st : St) (tmps : Array Value) (x : Option Nat × MV) (u : Value) : Prop :=
  (∃ s, resI (lk st.v s) x ∧ tmps.getD s undef = u) ∨ (x.1 = none ∧ Rep γ ω w x.2 u)

theorem resP_ok {P : Program} {γ : List Nat} {ω : Own} {w : World} {nt : Nat} {st : St} {a : Act} (h : Rel γ ω w nt st a) : ∀ {rs : List ResultVar} {r : Res}, resP P st rs r →
    ∃ vs : List Value, vs.length = r.length ∧ (rs.mapM (rvS a.tmps)).run P w = .ok vs w ∧
      ∀ (i : Nat) (x : Option Nat × MV) (u : Value), r[i]? = some x → vs[i]? = some u → resU γ ω w st a.tmps x u
  | [], [], _ => ⟨[], rfl, rfl, by simp⟩
  | .tmp s :: rs, x :: r, hx => by
    obtain ⟨h1, h2⟩ := hx
    obtain ⟨vs, g1, g2, g3⟩ := resP_ok h h2
    refine ⟨a.tmps.getD s undef :: vs, by simp [g1], ?_, fun i y u hy hu => ?_⟩
    · rw [List.mapM_cons]
      simp only [rvS, Sem.run_bind, Sem.run_pure, Result.andThen_ok, g2]
    · cases i with
      | zero => simp only [List.getElem?_cons_zero, Option.some.injEq] at hy hu; subst hy; subst hu; exact .inl ⟨s, h1, rfl⟩
      | succ i => exact g3 i y u (by simpa using hy) (by simpa using hu)
  | .cell s T :: rs, x :: r, hx => by
    obtain ⟨h1, h2⟩ := hx
    obtain ⟨vs, g1, g2, g3⟩ := resP_ok h h2
    obtain ⟨c, v, q1, q2, q3⟩ := load_ok h h1
    have hv : (do loadVar T (← asAddr (a.tmps.getD s undef)) : Sem Value).run P w = .ok v w := by
      have e : a.eval (.tmp s) = a.tmps.getD s undef := by simp [Act.eval]
      rw [e] at q1
      unfold Instr.loadAt at q1
      generalize a.tmps.getD s undef = y at q1 ⊢
      cases y with
      | pointer b => cases b with
        | some b => exact q1
        | none => simp [Instr.sureAddr] at q1
      | _ => simp [Instr.sureAddr] at q1
    refine ⟨v :: vs, by simp [g1], ?_, fun i y u hy hu => ?_⟩
    · rw [List.mapM_cons]
      simp only [Sem.run_bind, rvS, Sem.run_pure, Result.andThen_ok, g2]
      rw [Sem.run_bind] at hv
      rw [hv]
      simp [g2]
    · cases i with
      | zero =>
        simp only [List.getElem?_cons_zero, Option.some.injEq] at hy hu; subst hy; subst hu
        obtain ⟨x1, x2⟩ := x
        cases c with
        | sh m =>
          cases x1 with
          | some _ => simp [resM] at q3
          | none =>
            refine .inr ⟨rfl, ?_⟩
            have hr : Rep γ ω w m v := q2 (.slot 0)
            rcases q3 with e | e
            · subst e; exact hr
            · subst e; exact hr.top
        | _ => simp [resM] at q3
      | succ i => exact g3 i y u (by simpa using hy) (by simpa using hu)
  | [], _ :: _, hx => by simp [resP] at hx
  | .tmp _ :: _, [], hx => by simp [resP] at hx
  | .cell _ _ :: _, [], hx => by simp [resP] at hx

/-- THE ROAD TO A CONTRACT. -/
theorem spec_of {P : Program} {f : FuncId} {fn : Func} {c : Code} {args : List MV} {r : Res} {nt : Nat} {rs : List ResultVar} (hf : P.funcs[f]? = some fn) (hb : fn.body = some c) (hnt : fn.ntmps = nt) (hrs : fn.results.toList = rs) (hname : (fn.name == "runtime.NumGoroutine") = false) (hna : args.length ≤ nt) (hnp : ∀ x ∈ r, np x.2 = true)
    (h : ∀ B : List (Option (List Ct)), PW P nt c ⟨argsV 0 args, B⟩ (postP P rs r)) : Spec P f args r := by
  subst hnt; subst hrs
  refine ⟨fun as w => ?_, fun γ ω w vs hl hv hlt hres => ?_⟩
  · have h1 : fn.name ≠ "runtime.NumGoroutine" := by simpa using hname
    simp [callFunc, hf, h1, hb, mark]
  let ωc : Own := fun b => match ω b with | none => none | some _ => some .outer
  have hsh : ∀ b, ω b = none → ωc b = none := fun b hb => by simp [ωc, hb]
  have hR : Rel γ ωc w fn.ntmps ⟨argsV 0 args, List.replicate γ.length none⟩ { tmps := vs.toArray ++ Array.replicate (fn.ntmps - vs.toArray.size) undef, defers := [] } := by
    refine ⟨by simp; omega, rfl, fun b hb => by simp [ωc, hlt b hb], ⟨by simp, fun k cs hk => ?_⟩, fun s => ?_⟩
    · rw [List.getElem?_replicate] at hk
      split at hk
      · injection hk with hk; exact absurd hk (by simp)
      · exact absurd hk (by simp)
    · simp only
      rw [lk_argsV]
      simp only [Nat.zero_le, if_true, Nat.sub_zero]
      cases hm : args[s]? with
      | none => trivial
      | some m =>
        have hs : s < vs.length := by rw [hl]; exact (List.getElem?_eq_some_iff.1 hm).1
        have e : (vs.toArray ++ Array.replicate (fn.ntmps - vs.toArray.size) undef).getD s undef = vs[s] := by
          rw [Array.getD_eq_getD_getElem?, Array.getElem?_append_left (by simpa using hs)]
          simp [hs]
        rw [e]
        exact (hv s m vs[s] hm (List.getElem?_eq_getElem hs)).relabel hsh
  refine calls_of_wp hf hb (h _ γ ωc w _ _ hR (fun e γ' ω' w' st' a' h1 h2 h3 => ?_))
  have hpost : resP P st' fn.results.toList r := by cases e <;> first | exact h3 | exact h3.elim
  obtain ⟨us, g1, g2, g3⟩ := resP_ok h2 hpost
  obtain ⟨v, hrun, hv1, hv2⟩ := results_run g2
  have heap : ∀ b, b < w.heap.size → w'.heap[b]? = w.heap[b]? := by
    intro b hb'
    cases hω : ωc b with
    | none => exact (h1.none b hb' hω).1
    | some o =>
      have ho : o = .outer := by
        simp only [ωc] at hω
        split at hω
        · exact absurd hω (by simp)
        · injection hω with hω; exact hω.symm
      subst ho
      exact (h1.keep b _ hb' hω (fun h => h rfl)).1
  have hold' : ∀ b, b < w.heap.size → ωc b = none → ω' b = none := fun b hb' h0 => (h1.none b hb' h0).2
  have hold'' : ∀ b, b < w.heap.size → ∀ o, ωc b = some o → ω' b = some .outer := by
    intro b hb' o hω
    have ho : o = .outer := by
      simp only [ωc] at hω
      split at hω
      · exact absurd hω (by simp)
      · injection hω with hω; exact hω.symm
    subst ho
    exact (h1.keep b _ hb' hω (fun h => h rfl)).2
  let ωr : Own := fun b => if b < w.heap.size then ω b else match ω' b with | none => none | some (.slot _) => some .res | some _ => some .outer
  have hltr : ∀ b, w'.heap.size ≤ b → ωr b = none := by
    intro b hb'
    have : ¬ b < w.heap.size := by have := h1.size; omega
    simp only [ωr, if_neg this, h2.lt b hb']
  have hshr : ∀ b, ω' b = none → ωr b = none := by
    intro b hb'
    simp only [ωr]
    split
    · rename_i hlt'
      cases hω : ωc b with
      | none =>
        simp only [ωc] at hω
        split at hω
        · assumption
        · exact absurd hω (by simp)
      | some o => rw [hold'' b hlt' o hω] at hb'; exact absurd hb' (by simp)
    · rw [hb']
  have hitem : ∀ (x : Option Nat × MV) (u : Value), np x.2 = true → resU γ' ω' w' st' a'.tmps x u → ResI γ ωr w' x u := by
    rintro ⟨x1, x2⟩ u hnx (⟨s, hs, rfl⟩ | ⟨rfl, hr⟩)
    rotate_left
    · exact (hr.relabel hshr).np hnx
    have hslot := h2.slots s
    have hownr : ∀ b, ω' b = some (.slot s) → ωr b = some .res := by
      intro b hb'
      simp only [ωr]
      split
      · rename_i hlt'
        cases hω : ωc b with
        | none => rw [hold' b hlt' hω] at hb'; exact absurd hb' (by simp)
        | some o => rw [hold'' b hlt' o hω] at hb'; exact absurd hb' (by simp)
      · rw [hb']
    have hown : ∀ {sz : Nat} {m : MV} {u : Value}, np m = true → OwnRep γ' ω' w' (.slot s) sz m u → OwnRep γ ωr w' .res sz m u := by
      intro sz m u hn hu
      cases hu with
      | list es _ e2 xs hr2 hcl ho =>
        refine .list sz es u e2 xs hr2 ⟨hcl.len, hcl.wid, hcl.one, fun j e hj i c hi => ?_⟩ (fun b hb => ⟨hownr b (ho b hb).1, (ho b hb).2⟩)
        obtain ⟨u', h1, h2⟩ := hcl.rep j e hj i c hi
        exact ⟨u', h1, (h2.relabel hshr).np (npL_get (npLL_get (by simpa [np] using hn) j e hj) i c hi)⟩
      | map m blk es clock ho hltb hb he =>
        exact .map sz m blk es clock (hownr blk ho) hltb hb ⟨he.len, he.key, fun i x e hx hee => ((he.val i x e hx hee).relabel hshr).np (npE_get (by simpa [np] using hn) i x hx), he.born, he.nodup⟩
    cases hc : lk st'.v s with
    | sh m' =>
      rw [hc] at hs hslot
      cases x1 with
      | none =>
        have hr : Rep γ' ω' w' x2 (a'.tmps.getD s undef) := by
          rcases hs with hs | hs
          · subst hs; exact hslot
          · subst hs; exact Rep.top hslot
        exact (hr.relabel hshr).np hnx
      | some sz =>
        cases m' with
        | nil =>
          cases x2 with
          | list es =>
            cases es with
            | nil =>
              have hv : a'.tmps.getD s undef = .slice none 0 0 := by
                have : Rep γ' ω' w' .nil (a'.tmps.getD s undef) := hslot
                generalize a'.tmps.getD s undef = v at this ⊢
                cases this; rfl
              rw [hv]
              exact OwnRep.list sz [] _ 0 [] (World.ownsRow_nil w' 0 0 sz) ⟨by simp, by simp, by simp, by simp⟩ (fun b hb => by simp [Value.ownBlock] at hb)
            | cons => simp [resI] at hs
          | _ => simp [resI] at hs
        | _ => cases x2 <;> simp [resI] at hs
    | own sz' m' =>
      rw [hc] at hs hslot
      cases x1 with
      | none => simp [resI] at hs
      | some sz =>
        have h1 : sz' = sz ∧ m' = x2 := hs
        obtain ⟨e1, e2⟩ := h1
        subst e1; subst e2
        exact hown hnx hslot
    | _ => rw [hc] at hs; cases x1 <;> simp [resI] at hs
  have key : a'.defers = [] ∧ ∃ v, (results fn a'.tmps).run P w' = .ok v w' ∧ ∃ v' ω', Ending.returned v = .returned v' ∧ Chg (fun _ => False) γ ω w γ ω' w' ∧ (∀ b, w'.heap.size ≤ b → ω' b = none) ∧ (∀ b, b < w.heap.size → ω' b = ω b) ∧
      (∀ b, w.heap.size ≤ b → ω' b = none ∨ ω' b = some .outer ∨ ω' b = some .res) ∧ ResRep γ ω' w' r v' := by
    refine ⟨h2.defers, v, hrun, v, ωr, rfl, ⟨h1.os, h1.tape, h1.output, h1.size, fun _ _ h => h, fun b hb h0 => ⟨heap b hb, by simp only [ωr, if_pos hb]; exact h0⟩, fun b o hb h0 _ => ⟨heap b hb, by simp only [ωr, if_pos hb]; exact h0⟩⟩, hltr, fun b hb => by simp only [ωr, if_pos hb], ?_, ?_⟩
    · intro b hb
      have : ¬ b < w.heap.size := by omega
      simp only [ωr, if_neg this]
      split
      · exact .inl rfl
      · exact .inr (.inr rfl)
      · exact .inr (.inl rfl)
    · match r, us, g1 with
      | [x], [u], _ =>
        show ResI γ ωr w' x v
        rw [hv1 u rfl]
        exact hitem x u (hnp x (by simp)) (g3 0 x u rfl rfl)
      | [], [], _ => exact ⟨[], hv2 (by simp), rfl, by simp⟩
      | x :: y :: q, us, g1 =>
        refine ⟨us, hv2 (by rw [g1]; simp), g1, fun i z u hz hu => hitem z u (hnp z (List.mem_of_getElem? hz)) (g3 i z u hz hu)⟩
  cases e with
  | normal => exact key
  | ret => exact key
  | exit id => exact h3.elim

end Go.Pv
