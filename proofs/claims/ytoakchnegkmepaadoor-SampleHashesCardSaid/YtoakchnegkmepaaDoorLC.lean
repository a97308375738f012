/- The library of this work, part C: texts M21 M22 M23 M24 M25 M26 M27 M28. Printed by merge.py. -/
import Derived.Test.YtoakchnegkmepaaDoorLB
import Derived.Orders
section M21
/- A library of this session: statements, loops, and the road to a contract. -/
set_option linter.unusedVariables false
set_option linter.unusedSimpArgs false
namespace Go.Pv

/-! ### Regions -/
theorem rep_undef {γ : List Nat} {ω : Own} {w : World} : Rep γ ω w (.tup []) undef := Rep.tup [] [] rfl (by simp)
theorem rep_tup0 {γ : List Nat} {ω : Own} {w : World} {v : Value} (h : Rep γ ω w (.tup []) v) : v = .tuple #[] := by
  cases h with
  | tup _ vs hl _ =>
    have : vs = [] := List.eq_nil_of_length_eq_zero (by simpa using hl)
    subst this; rfl
def gdP (P : Program) (nt : Nat) (fz : List Nat) (ops : Array Oper) (o : Oper) (st : St) (K : St → Prop) : Prop :=
  match o.guard with
  | none => opP P nt fz o st K
  | some (j, want) => match (ops[j]?).bind (·.dst) with
    | some d => match lk st.v d with
      | .sh (.bool b) => if b = want then opP P nt fz o st K else dOk o.dst nt ∧ K (putO st o.dst (.sh (.tup [])))
      | .sh (.tup []) => dOk o.dst nt ∧ K (putO st o.dst (.sh (.tup [])))
      | _ => False
    | none => False

def runP (P : Program) (nt : Nat) (fz : List Nat) (ops : Array Oper) : List Oper → St → (St → Prop) → Prop
  | [], st, K => K st
  | o :: r, st, K => gdP P nt fz ops o st (fun st' => runP P nt fz ops r st' K)

/-- What is kept behind a statement. -/
def keepC (keep : List Nat) : Ct → Ct
  | .al (.slot s) => if memN keep s then .al (.slot s) else .dead
  | .eadr (.slot s) i o => if memN keep s then .eadr (.slot s) i o else .dead
  | c => c

def keepS (keep : List Nat) : List (Nat × Ct) → List (Nat × Ct)
  | [] => []
  | (k, c) :: r => if memN keep k then (k, keepC keep c) :: keepS keep r else keepS keep r

theorem lk_keepS (keep : List Nat) (v : List (Nat × Ct)) (s : Nat) : lk (keepS keep v) s = if memN keep s then keepC keep (lk v s) else .dead := by
  induction v with
  | nil => simp [keepS, lk, keepC]
  | cons x r ih =>
    obtain ⟨k, c⟩ := x
    by_cases hk : memN keep k = true
    · have e : keepS keep ((k, c) :: r) = (k, keepC keep c) :: keepS keep r := by rw [keepS, if_pos hk]
      rw [e]
      by_cases h : k = s
      · subst h; rw [lk, if_pos rfl, if_pos hk, lk, if_pos rfl]
      · rw [lk, if_neg h, ih, lk, if_neg h]
    · have e : keepS keep ((k, c) :: r) = keepS keep r := by rw [keepS, if_neg hk]
      rw [e, ih]
      by_cases h : k = s
      · subst h; rw [if_neg hk, if_neg hk]
      · rw [lk, if_neg h]

def St.keep (st : St) (keep : List Nat) : St := { st with v := keepS keep st.v }

theorem Rel.keep {γ : List Nat} {ω : Own} {w : World} {nt : Nat} {st : St} {a : Act} (h : Rel γ ω w nt st a) (keep : List Nat) : Rel γ ω w nt (st.keep keep) a := by
  refine ⟨h.size, h.defers, h.lt, h.boxes, fun s => ?_⟩
  show CtRep γ ω w _ a.tmps (.slot s) (lk (keepS keep st.v) s) _
  rw [lk_keepS]
  by_cases hs : memN keep s = true
  · rw [if_pos hs]
    have hold := h.slots s
    cases hc : lk st.v s with
    | al p =>
      cases p with
      | slot s1 =>
        simp only [keepC]
        by_cases h1 : memN keep s1 = true
        · rw [if_pos h1]
          rw [hc] at hold
          obtain ⟨⟨sz, m, h2⟩, h3⟩ := hold
          refine ⟨⟨sz, m, ?_⟩, h3⟩
          simp only [St.at, St.keep] at h2 ⊢
          rw [lk_keepS, if_pos h1, h2]; rfl
        · rw [if_neg h1]; trivial
      | cell k off => rw [hc] at hold; exact hold
    | eadr p i o =>
      cases p with
      | slot s1 =>
        simp only [keepC]
        by_cases h1 : memN keep s1 = true
        · rw [if_pos h1]
          rw [hc] at hold
          obtain ⟨sz, es, u, blk, h2, h3, h4, h5, h6⟩ := hold
          refine ⟨sz, es, u, blk, ?_, h3, h4, h5, h6⟩
          simp only [St.at, St.keep] at h2 ⊢
          rw [lk_keepS, if_pos h1, h2]; rfl
        · rw [if_neg h1]; trivial
      | cell k off => rw [hc] at hold; exact hold
    | sh m => rw [hc] at hold; exact hold
    | own sz m => rw [hc] at hold; exact hold
    | tupc cs => rw [hc] at hold; exact hold
    | siter s' pos => rw [hc] at hold; exact hold
    | dead => trivial
  · rw [if_neg hs]; trivial

section
variable {P : Program} {γ : List Nat} {ω : Own} {w : World} {nt : Nat} {st : St} {a : Act}

theorem step_ok {fz : List Nat} {ops : Array Oper} {i : Nat} {o : Oper} (ho : ops[i]? = some o) (h : Rel γ ω w nt st a) {K : St → Prop} (hx : gdP P nt fz ops o st K) (Q : Exit → Act → World → Prop) (rest : List Nat)
    (hnext : ∀ γ' ω' w' st' a', Chg NotOuter γ ω w γ' ω' w' → Rel γ' ω' w' nt st' a' → K st' → wpOps P ops Q rest a' w') : wpOps P ops Q (i :: rest) a w := by
  simp only [wpOps, ho]
  unfold gdP at hx
  split at hx
  · rename_i hg
    have hw : Region.wanted o (yielded ops a.tmps) = true := by simp [Region.wanted, hg]
    rw [if_pos hw]
    refine .inl ?_
    have := op_ok h hx Q
    unfold Oper.wp at this ⊢
    revert this
    generalize (execOp a.eval o).run P w = r
    intro this
    cases r with
    | halt h' w' => cases h' <;> first | exact this | exact this.elim
    | ok n w' =>
      cases n with
      | value v => simp only [Oper.upon] at this ⊢; obtain ⟨γ', ω', st', h1, h2, h3⟩ := this; exact hnext _ _ _ _ _ h1 h2 h3
      | skip => simp only [Oper.upon] at this ⊢; obtain ⟨γ', ω', st', h1, h2, h3⟩ := this; exact hnext _ _ _ _ _ h1 h2 h3
      | defer d => simp only [Oper.upon] at this ⊢; obtain ⟨γ', ω', st', h1, h2, h3⟩ := this; exact hnext _ _ _ _ _ h1 h2 h3
      | enter f args =>
        simp only [Oper.upon] at this ⊢
        refine this.mono fun e w'' hh => ?_
        cases e with
        | returned v => obtain ⟨γ', ω', st', h1, h2, h3⟩ := hh; exact hnext _ _ _ _ _ h1 h2 h3
        | panicked ch => exact hh
        | outgrown => exact hh
      | row rw_ args =>
        simp only [Oper.upon] at this ⊢
        refine this.mono fun v w'' hh => ?_
        obtain ⟨γ', ω', st', h1, h2, h3⟩ := hh; exact hnext _ _ _ _ _ h1 h2 h3
      | _ => exact this.elim
  · rename_i j want hg
    split at hx
    · rename_i d hd
      split at hx
      · rename_i b hb
        have hr : Rep γ ω w (.bool b) (a.eval (.tmp d)) := slot_rep h d hb
        have hv : a.tmps.getD d undef = .bool b := by
          have := (Val.bool (.inl hr)); exact this
        have hsome : a.tmps[d]? = some (.bool b) := by
          rw [Array.getD_eq_getD_getElem?] at hv
          cases hq : a.tmps[d]? with
          | none => rw [hq] at hv; simp [undef] at hv
          | some u => rw [hq] at hv; simp at hv; rw [hv]
        have hy : yielded ops a.tmps j = some b := by
          unfold yielded
          rw [hd]
          simp [hsome]
        by_cases hbw : b = want
        · rw [if_pos hbw] at hx
          have hw : Region.wanted o (yielded ops a.tmps) = true := by simp [Region.wanted, hg, hy, hbw]
          rw [if_pos hw]
          refine .inl ?_
          have := op_ok h hx Q
          unfold Oper.wp at this ⊢
          revert this
          generalize (execOp a.eval o).run P w = r
          intro this
          cases r with
          | halt h' w' => cases h' <;> first | exact this | exact this.elim
          | ok n w' =>
            cases n with
            | value v => simp only [Oper.upon] at this ⊢; obtain ⟨γ', ω', st', h1, h2, h3⟩ := this; exact hnext _ _ _ _ _ h1 h2 h3
            | skip => simp only [Oper.upon] at this ⊢; obtain ⟨γ', ω', st', h1, h2, h3⟩ := this; exact hnext _ _ _ _ _ h1 h2 h3
            | defer d => simp only [Oper.upon] at this ⊢; obtain ⟨γ', ω', st', h1, h2, h3⟩ := this; exact hnext _ _ _ _ _ h1 h2 h3
            | enter f args =>
              simp only [Oper.upon] at this ⊢
              refine this.mono fun e w'' hh => ?_
              cases e with
              | returned v => obtain ⟨γ', ω', st', h1, h2, h3⟩ := hh; exact hnext _ _ _ _ _ h1 h2 h3
              | panicked ch => exact hh
              | outgrown => exact hh
            | row rw_ args =>
              simp only [Oper.upon] at this ⊢
              refine this.mono fun v w'' hh => ?_
              obtain ⟨γ', ω', st', h1, h2, h3⟩ := hh; exact hnext _ _ _ _ _ h1 h2 h3
            | _ => exact this.elim
        · rw [if_neg hbw] at hx
          have hw : Region.wanted o (yielded ops a.tmps) = false := by
            simp [Region.wanted, hg, hy]; exact hbw
          rw [if_neg (by rw [hw]; simp)]
          exact hnext _ _ _ _ _ (Chg.refl _ _ _ _) (h.putO (dOk_iff hx.1) (c := .sh (.tup [])) (fun t _ => rep_undef)) hx.2
      · rename_i hb
        have hr : Rep γ ω w (.tup []) (a.eval (.tmp d)) := slot_rep h d hb
        have hv : a.tmps.getD d undef = .tuple #[] := rep_tup0 hr
        have hy : yielded ops a.tmps j = none := by
          unfold yielded
          rw [hd]
          simp only [Option.bind_some]
          rw [Array.getD_eq_getD_getElem?] at hv
          cases hq : a.tmps[d]? with
          | none => rfl
          | some u => rw [hq] at hv; simp only [Option.getD_some] at hv; rw [hv]
        have hw : Region.wanted o (yielded ops a.tmps) = false := by
          simp [Region.wanted, hg, hy]
        rw [if_neg (by rw [hw]; simp)]
        exact hnext _ _ _ _ _ (Chg.refl _ _ _ _) (h.putO (dOk_iff hx.1) (c := .sh (.tup [])) (fun t _ => rep_undef)) hx.2
      · exact hx.elim
    · exact hx.elim

theorem run_ok {fz : List Nat} {ops : Array Oper} : ∀ (l : List Oper) (i : Nat), ops.toList.drop i = l → ∀ {γ : List Nat} {ω : Own} {w : World} {st : St} {a : Act}, Rel γ ω w nt st a → ∀ {K : St → Prop}, runP P nt fz ops l st K → ∀ (Q : Exit → Act → World → Prop),
    (∀ γ' ω' w' st' a', Chg NotOuter γ ω w γ' ω' w' → Rel γ' ω' w' nt st' a' → K st' → Q .normal a' w') → wpOps P ops Q (List.range' i l.length) a w
  | [], i, hl, γ, ω, w, st, a, h, K, hx, Q, hq => by
    simp only [List.length_nil, List.range'_zero, wpOps]
    exact hq _ _ _ _ _ (Chg.refl _ _ _ _) h hx
  | o :: r, i, hl, γ, ω, w, st, a, h, K, hx, Q, hq => by
    have ho : ops[i]? = some o := by
      have := congrArg (fun l => l[0]?) hl
      simpa [List.getElem?_drop] using this
    have hr : ops.toList.drop (i + 1) = r := by
      rw [← List.drop_drop, hl]; rfl
    simp only [List.length_cons, List.range'_succ]
    refine step_ok ho h hx Q _ (fun γ' ω' w' st' a' h1 h2 h3 => ?_)
    exact run_ok r (i + 1) hr h2 h3 Q (fun γ2 ω2 w2 st2 a2 g1 g2 g3 => hq _ _ _ _ _ (h1.trans g1) g2 g3)
end

/-! ### Statements -/
inductive PX where
  | normal
  | exit (id : Nat)
  | ret

def PX.toExit : PX → Exit
  | .normal => .normal
  | .exit id => .exit id
  | .ret => .ret

/-- From these contents the code comes to Q. -/
def PW (P : Program) (nt : Nat) (c : Code) (st : St) (Q : PX → St → Prop) : Prop :=
  ∀ (γ : List Nat) (ω : Own) (w : World) (a : Act) (R : Exit → Act → World → Prop), Rel γ ω w nt st a →
    (∀ e γ' ω' w' st' a', Chg NotOuter γ ω w γ' ω' w' → Rel γ' ω' w' nt st' a' → Q e st' → R (PX.toExit e) a' w') → c.wp P R a w

def thenQ (K : St → Prop) (Q : PX → St → Prop) : PX → St → Prop
  | .normal, st => K st
  | e, st => Q e st

def blkQ (id : Nat) (Q : PX → St → Prop) : PX → St → Prop
  | .exit id', st => if id' = id then Q .normal st else Q (.exit id') st
  | e, st => Q e st

section
variable {P : Program} {nt : Nat} {st : St} {Q : PX → St → Prop}

theorem PW.mono {c : Code} {Q' : PX → St → Prop} (h : PW P nt c st Q) (hq : ∀ e st, Q e st → Q' e st) : PW P nt c st Q' :=
  fun γ ω w a R hr hk => h γ ω w a R hr (fun e γ' ω' w' st' a' h1 h2 h3 => hk e γ' ω' w' st' a' h1 h2 (hq _ _ h3))

theorem PW.skip (h : Q .normal st) : PW P nt .skip st Q := fun γ ω w a R hr hk => wp_skip (hk .normal _ _ _ _ _ (Chg.refl _ _ _ _) hr h)
theorem PW.label {l : Nat} (h : Q .normal st) : PW P nt (.label l) st Q := fun γ ω w a R hr hk => wp_label (hk .normal _ _ _ _ _ (Chg.refl _ _ _ _) hr h)
theorem PW.exit {id : Nat} (h : Q (.exit id) st) : PW P nt (.exit id) st Q := fun γ ω w a R hr hk => wp_exit (hk (.exit id) _ _ _ _ _ (Chg.refl _ _ _ _) hr h)
theorem PW.ret (h : Q .ret st) : PW P nt .ret st Q := fun γ ω w a R hr hk => wp_ret (hk .ret _ _ _ _ _ (Chg.refl _ _ _ _) hr h)

theorem PW.seq {x y : Code} (h : ∀ K : St → Prop, (∀ st, PW P nt y st Q → K st) → PW P nt x st (thenQ K Q)) : PW P nt (.seq x y) st Q := by
  intro γ ω w a R hr hk
  refine wp_seq (h (fun st => PW P nt y st Q) (fun _ h => h) γ ω w a _ hr (fun e γ' ω' w' st' a' h1 h2 h3 => ?_))
  cases e with
  | normal => exact h3 γ' ω' w' a' R h2 (fun e γ2 ω2 w2 st2 a2 g1 g2 g3 => hk e _ _ _ _ _ (h1.trans g1) g2 g3)
  | exit id => exact hk (.exit id) _ _ _ _ _ h1 h2 h3
  | ret => exact hk .ret _ _ _ _ _ h1 h2 h3

/-- A region; keep: the slots that are read later on. -/
theorem PW.region (fz keep : List Nat) {id : Nat} {ops : Array Oper} (h : runP P nt fz ops ops.toList st (fun st' => Q .normal (st'.keep keep))) : PW P nt (.region id ops false) st Q := by
  intro γ ω w a R hr hk
  refine wp_region ?_
  have := run_ok ops.toList 0 (by simp) hr h R (fun γ' ω' w' st' a' h1 h2 h3 => hk .normal _ _ _ _ _ h1 (h2.keep keep) h3)
  rw [List.range_eq_range']
  simpa using this

theorem PW.cond {t : Nat} {x y : Code} {b : Bool} (hb : lk st.v t = .sh (.bool b)) (ht : b = true → PW P nt x st Q) (hf : b = false → PW P nt y st Q) : PW P nt (.cond (.tmp t) x y) st Q := by
  intro γ ω w a R hr hk
  have hr' : Rep γ ω w (.bool b) (a.eval (.tmp t)) := slot_rep hr t hb
  refine wp_cond_split (Val.bool (.inl hr')) (fun e => ht e γ ω w a R hr hk) (fun e => hf e γ ω w a R hr hk)

theorem PW.block {id : Nat} {c : Code} (h : PW P nt c st (blkQ id Q)) : PW P nt (.block id c) st Q := by
  intro γ ω w a R hr hk
  refine wp_block (h γ ω w a _ hr (fun e γ' ω' w' st' a' h1 h2 h3 => ?_))
  cases e with
  | normal => exact hk .normal _ _ _ _ _ h1 h2 h3
  | ret => exact hk .ret _ _ _ _ _ h1 h2 h3
  | exit id' =>
    simp only [PX.toExit, Exit.inBlock]
    simp only [blkQ] at h3
    split at h3
    · rename_i e; rw [if_pos e]; exact hk .normal _ _ _ _ _ h1 h2 h3
    · rename_i e; rw [if_neg e]; exact hk (.exit id') _ _ _ _ _ h1 h2 h3

/-- Less is known. -/
theorem PW.weak {c : Code} (keep : List Nat) (h : PW P nt c (st.keep keep) Q) : PW P nt c st Q := fun γ ω w a R hr hk => h γ ω w a R (hr.keep keep) hk

/-- A loop: I with a ghost that goes down. -/
theorem PW.loop {σ : Type} (I : σ → St → Prop) (μ : σ → Nat) {c : Code} (s0 : σ) (h0 : I s0 st)
    (round : ∀ s st, I s st → PW P nt c st (thenQ (fun st' => ∃ s', I s' st' ∧ μ s' < μ s) Q)) : PW P nt (.loop c) st Q := by
  intro γ ω w a R hr hk b k cs
  have key : ∀ (n : Nat) (s : σ) (st : St) (γ' : List Nat) (ω' : Own) (w' : World) (a : Act), μ s = n → I s st → Chg NotOuter γ ω w γ' ω' w' → Rel γ' ω' w' nt st a →
      ∃ e a' w'', R e a' w'' ∧ Arrives P (lone (b.at a (.code c :: .inLoop c :: k)) cs w') b k cs e a' w'' := by
    intro n
    induction n using Nat.strongRecOn with
    | _ n ih =>
      intro s st γ' ω' w' a hn hI hc hr'
      have hrd := round s st hI γ' ω' w' a (fun e a' w'' => (∃ γ2 ω2 st2 s', e = .normal ∧ Chg NotOuter γ ω w γ2 ω2 w'' ∧ Rel γ2 ω2 w'' nt st2 a' ∧ I s' st2 ∧ μ s' < μ s) ∨ (e ≠ .normal ∧ R e a' w'')) hr'
        (fun e γ2 ω2 w2 st2 a2 g1 g2 g3 => by
          cases e with
          | normal => obtain ⟨s', h1, h2⟩ := g3; exact .inl ⟨γ2, ω2, st2, s', rfl, hc.trans g1, g2, h1, h2⟩
          | exit id => exact .inr ⟨by simp [PX.toExit], hk (.exit id) _ _ _ _ _ (hc.trans g1) g2 g3⟩
          | ret => exact .inr ⟨by simp [PX.toExit], hk .ret _ _ _ _ _ (hc.trans g1) g2 g3⟩)
      obtain ⟨e, a₁, w₁, hq, harr⟩ := hrd b (.inLoop c :: k) cs
      rcases hq with ⟨γ2, ω2, st2, s', rfl, hc2, hr2, hI2, hlt⟩ | ⟨hne, hq⟩
      · obtain ⟨e₂, a₂, w₂, hq₂, harr₂⟩ := ih (μ s') (hn ▸ hlt) s' st2 γ2 ω2 w₁ a₁ rfl hI2 hc2 hr2
        exact ⟨e₂, a₂, w₂, hq₂, .of_steps (Steps.trans harr (.one step_inLoop)) harr₂⟩
      · exact ⟨e, a₁, w₁, hq, .pass (x := .inLoop c) rfl (fun _ _ => .inl hne) harr⟩
  obtain ⟨e, a', w', hq, harr⟩ := key _ s0 st γ ω w a rfl h0 (Chg.refl _ _ _ _) hr
  exact ⟨e, a', w', hq, .of_steps (.one step_loop) harr⟩

end

/-! ### The road to a contract -/
/-- What a result's slot must hold. -/
def resI : Ct → Option Nat × MV → Prop
  | .sh m', (none, m) => m' = m ∨ m'.top = m
  | .own sz m', (some sz', m) => sz = sz' ∧ m' = m
  | .sh .nil, (some _, .list []) => True
  | _, _ => False

/-- What a result's place in memory must hold. -/
def resM : Ct → Option Nat × MV → Prop
  | .sh m', (none, m) => m' = m ∨ m'.top = m
  | _, _ => False

def resP (P : Program) (st : St) : List ResultVar → Res → Prop
  | [], [] => True
  | .tmp s :: r, x :: q => resI (lk st.v s) x ∧ resP P st r q
  | .cell s T :: r, x :: q => loadP P st T (.tmp s) (fun c => resM c x) ∧ resP P st r q
  | _, _ => False

def postP (P : Program) (rs : List ResultVar) (r : Res) : PX → St → Prop
  | .normal, st' | .ret, st' => resP P st' rs r
  | _, _ => False

def argsV : Nat → List MV → List (Nat × Ct)
  | _, [] => []
  | i, m :: r => (i, .sh m) :: argsV (i + 1) r

theorem lk_argsV : ∀ (ms : List MV) (i s : Nat), lk (argsV i ms) s = if i ≤ s then (match ms[s - i]? with | some m => .sh m | none => .dead) else .dead
  | [], i, s => by simp [argsV, lk]
  | m :: r, i, s => by
    simp only [argsV, lk]
    by_cases h : i = s
    · subst h; simp
    · rw [if_neg h, lk_argsV r (i + 1) s]
      by_cases h1 : i ≤ s
      · rw [if_pos h1, if_pos (by omega), show s - i = (s - (i + 1)) + 1 from by omega]; rfl
      · rw [if_neg h1, if_neg (by omega)]

/-- The value of a result's variable. -/
def rvS (tmps : Array Value) : ResultVar → Sem Value
  | .tmp t => pure (tmps.getD t undef)
  | .cell c t => do loadVar t (← asAddr (tmps.getD c undef))

theorem results_run {P : Program} {w : World} {fn : Func} {tmps : Array Value} {vs : List Value} (h : (fn.results.toList.mapM (rvS tmps)).run P w = .ok vs w) : ∃ v, (results fn tmps).run P w = .ok v w ∧ (∀ u, vs = [u] → v = u) ∧ (vs.length ≠ 1 → v = .tuple vs.toArray) := by
  have e : results fn tmps = (do let x ← List.toArray <$> fn.results.toList.mapM (rvS tmps); pure (if h : x.size = 1 then x[0] else .tuple x)) := by
    unfold results
    rw [← Array.mapM_eq_mapM_toList]
    congr 1
  rw [e]
  refine ⟨if h : vs.toArray.size = 1 then vs.toArray[0] else .tuple vs.toArray, ?_, ?_, ?_⟩
  · simp only [Sem.run_bind, Sem.run_map, h, Result.andThen_ok, Sem.run_pure]
  · intro u hu; subst hu; rfl
  · intro hu; rw [dif_neg (by simpa using hu)]

/-- A result of a function: in a slot, or shared. -/
def resU (γ : List Nat) (ω : Own) (w : World) (st : St) (tmps : Array Value) (x : Option Nat × MV) (u : Value) : Prop :=
  (∃ s, resI (lk st.v s) x ∧ tmps.getD s undef = u) ∨ (x.1 = none ∧ Rep γ ω w x.2 u)

theorem resP_ok {P : Program} {γ : List Nat} {ω : Own} {w : World} {nt : Nat} {st : St} {a : Act} (h : Rel γ ω w nt st a) : ∀ {rs : List ResultVar} {r : Res}, resP P st rs r →
    ∃ vs : List Value, vs.length = r.length ∧ (rs.mapM (rvS a.tmps)).run P w = .ok vs w ∧
      ∀ (i : Nat) (x : Option Nat × MV) (u : Value), r[i]? = some x → vs[i]? = some u → resU γ ω w st a.tmps x u
  | [], [], _ => ⟨[], rfl, rfl, by simp⟩
  | .tmp s :: rs, x :: r, hx => by
    obtain ⟨h1, h2⟩ := hx
    obtain ⟨vs, g1, g2, g3⟩ := resP_ok h h2
    refine ⟨a.tmps.getD s undef :: vs, by simp [g1], ?_, fun i y u hy hu => ?_⟩
    · rw [List.mapM_cons]
      simp only [rvS, Sem.run_bind, Sem.run_pure, Result.andThen_ok, g2]
    · cases i with
      | zero => simp only [List.getElem?_cons_zero, Option.some.injEq] at hy hu; subst hy; subst hu; exact .inl ⟨s, h1, rfl⟩
      | succ i => exact g3 i y u (by simpa using hy) (by simpa using hu)
  | .cell s T :: rs, x :: r, hx => by
    obtain ⟨h1, h2⟩ := hx
    obtain ⟨vs, g1, g2, g3⟩ := resP_ok h h2
    obtain ⟨c, v, q1, q2, q3⟩ := load_ok h h1
    have hv : (do loadVar T (← asAddr (a.tmps.getD s undef)) : Sem Value).run P w = .ok v w := by
      have e : a.eval (.tmp s) = a.tmps.getD s undef := by simp [Act.eval]
      rw [e] at q1
      unfold Instr.loadAt at q1
      generalize a.tmps.getD s undef = y at q1 ⊢
      cases y with
      | pointer b => cases b with
        | some b => exact q1
        | none => simp [Instr.sureAddr] at q1
      | _ => simp [Instr.sureAddr] at q1
    refine ⟨v :: vs, by simp [g1], ?_, fun i y u hy hu => ?_⟩
    · rw [List.mapM_cons]
      simp only [Sem.run_bind, rvS, Sem.run_pure, Result.andThen_ok, g2]
      rw [Sem.run_bind] at hv
      rw [hv]
      simp [g2]
    · cases i with
      | zero =>
        simp only [List.getElem?_cons_zero, Option.some.injEq] at hy hu; subst hy; subst hu
        obtain ⟨x1, x2⟩ := x
        cases c with
        | sh m =>
          cases x1 with
          | some _ => simp [resM] at q3
          | none =>
            refine .inr ⟨rfl, ?_⟩
            have hr : Rep γ ω w m v := q2 (.slot 0)
            rcases q3 with e | e
            · subst e; exact hr
            · subst e; exact hr.top
        | _ => simp [resM] at q3
      | succ i => exact g3 i y u (by simpa using hy) (by simpa using hu)
  | [], _ :: _, hx => by simp [resP] at hx
  | .tmp _ :: _, [], hx => by simp [resP] at hx
  | .cell _ _ :: _, [], hx => by simp [resP] at hx

/-- THE ROAD TO A CONTRACT. -/
theorem spec_of {P : Program} {f : FuncId} {fn : Func} {c : Code} {args : List MV} {r : Res} {nt : Nat} {rs : List ResultVar} (hf : P.funcs[f]? = some fn) (hb : fn.body = some c) (hnt : fn.ntmps = nt) (hrs : fn.results.toList = rs) (hname : (fn.name == "runtime.NumGoroutine") = false) (hna : args.length ≤ nt) (hnp : ∀ x ∈ r, np x.2 = true)
    (h : ∀ B : List (Option (List Ct)), PW P nt c ⟨argsV 0 args, B⟩ (postP P rs r)) : Spec P f args r := by
  subst hnt; subst hrs
  refine ⟨fun as w => ?_, fun γ ω w vs hl hv hlt hres => ?_⟩
  · have h1 : fn.name ≠ "runtime.NumGoroutine" := by simpa using hname
    simp [callFunc, hf, h1, hb, mark]
  let ωc : Own := fun b => match ω b with | none => none | some _ => some .outer
  have hsh : ∀ b, ω b = none → ωc b = none := fun b hb => by simp [ωc, hb]
  have hR : Rel γ ωc w fn.ntmps ⟨argsV 0 args, List.replicate γ.length none⟩ { tmps := vs.toArray ++ Array.replicate (fn.ntmps - vs.toArray.size) undef, defers := [] } := by
    refine ⟨by simp; omega, rfl, fun b hb => by simp [ωc, hlt b hb], ⟨by simp, fun k cs hk => ?_⟩, fun s => ?_⟩
    · rw [List.getElem?_replicate] at hk
      split at hk
      · injection hk with hk; exact absurd hk (by simp)
      · exact absurd hk (by simp)
    · simp only
      rw [lk_argsV]
      simp only [Nat.zero_le, if_true, Nat.sub_zero]
      cases hm : args[s]? with
      | none => trivial
      | some m =>
        have hs : s < vs.length := by rw [hl]; exact (List.getElem?_eq_some_iff.1 hm).1
        have e : (vs.toArray ++ Array.replicate (fn.ntmps - vs.toArray.size) undef).getD s undef = vs[s] := by
          rw [Array.getD_eq_getD_getElem?, Array.getElem?_append_left (by simpa using hs)]
          simp [hs]
        rw [e]
        exact (hv s m vs[s] hm (List.getElem?_eq_getElem hs)).relabel hsh
  refine calls_of_wp hf hb (h _ γ ωc w _ _ hR (fun e γ' ω' w' st' a' h1 h2 h3 => ?_))
  have hpost : resP P st' fn.results.toList r := by cases e <;> first | exact h3 | exact h3.elim
  obtain ⟨us, g1, g2, g3⟩ := resP_ok h2 hpost
  obtain ⟨v, hrun, hv1, hv2⟩ := results_run g2
  have heap : ∀ b, b < w.heap.size → w'.heap[b]? = w.heap[b]? := by
    intro b hb'
    cases hω : ωc b with
    | none => exact (h1.none b hb' hω).1
    | some o =>
      have ho : o = .outer := by
        simp only [ωc] at hω
        split at hω
        · exact absurd hω (by simp)
        · injection hω with hω; exact hω.symm
      subst ho
      exact (h1.keep b _ hb' hω (fun h => h rfl)).1
  have hold' : ∀ b, b < w.heap.size → ωc b = none → ω' b = none := fun b hb' h0 => (h1.none b hb' h0).2
  have hold'' : ∀ b, b < w.heap.size → ∀ o, ωc b = some o → ω' b = some .outer := by
    intro b hb' o hω
    have ho : o = .outer := by
      simp only [ωc] at hω
      split at hω
      · exact absurd hω (by simp)
      · injection hω with hω; exact hω.symm
    subst ho
    exact (h1.keep b _ hb' hω (fun h => h rfl)).2
  let ωr : Own := fun b => if b < w.heap.size then ω b else match ω' b with | none => none | some (.slot _) => some .res | some _ => some .outer
  have hltr : ∀ b, w'.heap.size ≤ b → ωr b = none := by
    intro b hb'
    have : ¬ b < w.heap.size := by have := h1.size; omega
    simp only [ωr, if_neg this, h2.lt b hb']
  have hshr : ∀ b, ω' b = none → ωr b = none := by
    intro b hb'
    simp only [ωr]
    split
    · rename_i hlt'
      cases hω : ωc b with
      | none =>
        simp only [ωc] at hω
        split at hω
        · assumption
        · exact absurd hω (by simp)
      | some o => rw [hold'' b hlt' o hω] at hb'; exact absurd hb' (by simp)
    · rw [hb']
  have hitem : ∀ (x : Option Nat × MV) (u : Value), np x.2 = true → resU γ' ω' w' st' a'.tmps x u → ResI γ ωr w' x u := by
    rintro ⟨x1, x2⟩ u hnx (⟨s, hs, rfl⟩ | ⟨rfl, hr⟩)
    rotate_left
    · exact (hr.relabel hshr).np hnx
    have hslot := h2.slots s
    have hownr : ∀ b, ω' b = some (.slot s) → ωr b = some .res := by
      intro b hb'
      simp only [ωr]
      split
      · rename_i hlt'
        cases hω : ωc b with
        | none => rw [hold' b hlt' hω] at hb'; exact absurd hb' (by simp)
        | some o => rw [hold'' b hlt' o hω] at hb'; exact absurd hb' (by simp)
      · rw [hb']
    have hown : ∀ {sz : Nat} {m : MV} {u : Value}, np m = true → OwnRep γ' ω' w' (.slot s) sz m u → OwnRep γ ωr w' .res sz m u := by
      intro sz m u hn hu
      cases hu with
      | list es _ e2 xs hr2 hcl ho =>
        refine .list sz es u e2 xs hr2 ⟨hcl.len, hcl.wid, hcl.one, fun j e hj i c hi => ?_⟩ (fun b hb => ⟨hownr b (ho b hb).1, (ho b hb).2⟩)
        obtain ⟨u', h1, h2⟩ := hcl.rep j e hj i c hi
        exact ⟨u', h1, (h2.relabel hshr).np (npL_get (npLL_get (by simpa [np] using hn) j e hj) i c hi)⟩
      | map m blk es clock ho hltb hb he =>
        exact .map sz m blk es clock (hownr blk ho) hltb hb ⟨he.len, he.key, fun i x e hx hee => ((he.val i x e hx hee).relabel hshr).np (npE_get (by simpa [np] using hn) i x hx), he.born, he.nodup⟩
    cases hc : lk st'.v s with
    | sh m' =>
      rw [hc] at hs hslot
      cases x1 with
      | none =>
        have hr : Rep γ' ω' w' x2 (a'.tmps.getD s undef) := by
          rcases hs with hs | hs
          · subst hs; exact hslot
          · subst hs; exact Rep.top hslot
        exact (hr.relabel hshr).np hnx
      | some sz =>
        cases m' with
        | nil =>
          cases x2 with
          | list es =>
            cases es with
            | nil =>
              have hv : a'.tmps.getD s undef = .slice none 0 0 := by
                have : Rep γ' ω' w' .nil (a'.tmps.getD s undef) := hslot
                generalize a'.tmps.getD s undef = v at this ⊢
                cases this; rfl
              rw [hv]
              exact OwnRep.list sz [] _ 0 [] (World.ownsRow_nil w' 0 0 sz) ⟨by simp, by simp, by simp, by simp⟩ (fun b hb => by simp [Value.ownBlock] at hb)
            | cons => simp [resI] at hs
          | _ => simp [resI] at hs
        | _ => cases x2 <;> simp [resI] at hs
    | own sz' m' =>
      rw [hc] at hs hslot
      cases x1 with
      | none => simp [resI] at hs
      | some sz =>
        have h1 : sz' = sz ∧ m' = x2 := hs
        obtain ⟨e1, e2⟩ := h1
        subst e1; subst e2
        exact hown hnx hslot
    | _ => rw [hc] at hs; cases x1 <;> simp [resI] at hs
  have key : a'.defers = [] ∧ ∃ v, (results fn a'.tmps).run P w' = .ok v w' ∧ ∃ v' ω', Ending.returned v = .returned v' ∧ Chg (fun _ => False) γ ω w γ ω' w' ∧ (∀ b, w'.heap.size ≤ b → ω' b = none) ∧ (∀ b, b < w.heap.size → ω' b = ω b) ∧
      (∀ b, w.heap.size ≤ b → ω' b = none ∨ ω' b = some .outer ∨ ω' b = some .res) ∧ ResRep γ ω' w' r v' := by
    refine ⟨h2.defers, v, hrun, v, ωr, rfl, ⟨h1.os, h1.tape, h1.output, h1.size, fun _ _ h => h, fun b hb h0 => ⟨heap b hb, by simp only [ωr, if_pos hb]; exact h0⟩, fun b o hb h0 _ => ⟨heap b hb, by simp only [ωr, if_pos hb]; exact h0⟩⟩, hltr, fun b hb => by simp only [ωr, if_pos hb], ?_, ?_⟩
    · intro b hb
      have : ¬ b < w.heap.size := by omega
      simp only [ωr, if_neg this]
      split
      · exact .inl rfl
      · exact .inr (.inr rfl)
      · exact .inr (.inl rfl)
    · match r, us, g1 with
      | [x], [u], _ =>
        show ResI γ ωr w' x v
        rw [hv1 u rfl]
        exact hitem x u (hnp x (by simp)) (g3 0 x u rfl rfl)
      | [], [], _ => exact ⟨[], hv2 (by simp), rfl, by simp⟩
      | x :: y :: q, us, g1 =>
        refine ⟨us, hv2 (by rw [g1]; simp), g1, fun i z u hz hu => hitem z u (hnp z (List.mem_of_getElem? hz)) (g3 i z u hz hu)⟩
  cases e with
  | normal => exact key
  | ret => exact key
  | exit id => exact h3.elim

end Go.Pv

end M21
section M22
/- A library of this session: regions whose order is open. -/
set_option linter.unusedVariables false
set_option linter.unusedSimpArgs false
namespace Go.Pv

/-- Operations that only compute. -/
def pureK : Op → Bool
  | .move _ | .binOp .. | .pick .. | .unOp .. | .convert .. | .extract .. | .load .. | .fieldAddr .. | .field .. | .indexAddr .. | .index .. | .slice .. | .nilCheck .. | .makeFunc .. => true
  | .call c => match c.callee with
    | .builtin .len | .builtin .min | .builtin .max => true
    | _ => false
  | _ => false

def killL (ds : List Nat) : List (Nat × Ct) → List (Nat × Ct)
  | [] => []
  | (k, c) :: r => (k, if memN ds k then .dead else c) :: killL ds r

theorem lk_killL (ds : List Nat) (v : List (Nat × Ct)) (s : Nat) : lk (killL ds v) s = if memN ds s then .dead else lk v s := by
  induction v with
  | nil => simp [killL, lk]
  | cons x r ih =>
    obtain ⟨k, c⟩ := x
    by_cases h : k = s
    · subst h; simp [killL, lk]
    · simp only [killL, lk, h, if_false]; exact ih

def isShD : Ct → Bool
  | .sh _ => true
  | .dead => true
  | _ => false

section
variable {P : Program} {γ : List Nat} {ω : Own} {w : World} {nt : Nat} {st st' : St} {a : Act}

/-- st' is st, but what stands in these slots is not known. -/
structure Less (ds : List Nat) (st st' : St) : Prop where
  B : st'.B = st.B
  lk : ∀ s, Go.Pv.lk st'.v s = if memN ds s then .dead else Go.Pv.lk st.v s
  sh : ∀ s, memN ds s = true → isShD (Go.Pv.lk st.v s) = true

theorem Less.at {ds : List Nat} (h : Less ds st st') (p : Place) : st'.at p = st.at p ∨ (isShD (st.at p) = true ∧ st'.at p = .dead) := by
  cases p with
  | slot s =>
    simp only [St.at]
    rw [h.lk]
    cases hm : memN ds s with
    | true => exact .inr ⟨h.sh s hm, by simp⟩
    | false => exact .inl (by simp)
  | cell k o => exact .inl (by simp only [St.at, h.B])

theorem Less.rdc {ds : List Nat} (h : Less ds st st') (c : Ct) : Go.Pv.rdc st' c = Go.Pv.rdc st c := by
  cases c with
  | al p =>
    simp only [Go.Pv.rdc]
    rcases h.at p with e | ⟨e1, e2⟩
    · rw [e]
    · rw [e2]
      cases hc : st.at p <;> simp [hc, isShD] at e1 ⊢
  | _ => rfl

theorem Less.opv {ds : List Nat} (h : Less ds st st') {x : Operand} (hx : ∀ t, x = .tmp t → memN ds t = false) : Go.Pv.opv st' x = Go.Pv.opv st x := by
  cases x with
  | tmp t => simp only [Go.Pv.opv]; rw [h.lk, hx t rfl, h.rdc]; simp
  | _ => rfl

theorem Less.lkx {ds : List Nat} (h : Less ds st st') {t : Nat} (hx : memN ds t = false) : Go.Pv.lk st'.v t = Go.Pv.lk st.v t := by
  rw [h.lk, hx]; simp

theorem Less.shv {ds : List Nat} (h : Less ds st st') {x : Operand} (hx : ∀ t, x = .tmp t → memN ds t = false) : Go.Pv.shv st' x = Go.Pv.shv st x := by
  cases x with
  | tmp t => simp only [Go.Pv.shv]; rw [h.lkx (hx t rfl)]
  | _ => rfl

theorem Less.opvs {ds : List Nat} (h : Less ds st st') : ∀ {xs : List Operand}, (∀ x ∈ xs, ∀ t, x = .tmp t → memN ds t = false) → Go.Pv.opvs st' xs = Go.Pv.opvs st xs
  | [], _ => rfl
  | x :: r, hx => by
    simp only [Go.Pv.opvs]
    rw [h.opv (hx x (by simp)), h.opvs (fun y hy => hx y (by simp [hy]))]

theorem Less.shvs {ds : List Nat} (h : Less ds st st') : ∀ {xs : List Operand}, (∀ x ∈ xs, ∀ t, x = .tmp t → memN ds t = false) → Go.Pv.shvs st' xs = Go.Pv.shvs st xs
  | [], _ => rfl
  | x :: r, hx => by
    simp only [Go.Pv.shvs]
    rw [h.shv (hx x (by simp)), h.shvs (fun y hy => hx y (by simp [hy]))]

theorem Less.own {ds : List Nat} (h : Less ds st st') (p : Place) {β : Type} (f : Nat → MV → β) (z : β) :
    (match st'.at p with | .own sz m => f sz m | _ => z) = (match st.at p with | .own sz m => f sz m | _ => z) := by
  rcases h.at p with e | ⟨e1, e2⟩
  · rw [e]
  · rw [e2]
    cases hc : st.at p <;> simp [hc, isShD] at e1 ⊢

theorem Less.bnd {ds : List Nat} (h : Less ds st st') {x : Option Operand} (n : Nat) (hx : ∀ y, x = some y → ∀ t, y = .tmp t → memN ds t = false) : bndOf st' n x = bndOf st n x := by
  cases x with
  | none => rfl
  | some y => simp only [bndOf]; rw [h.opv (hx y rfl)]

theorem Less.pure {ds : List Nat} (h : Less ds st st') {op : Op} (hk : pureK op = true) (hx : ∀ x ∈ op.operands, ∀ t, x = .tmp t → memN ds t = false) {K : Ct → Prop} (hp : pureP P st op K) : pureP P st' op K := by
  cases op <;> simp only [pureK, Bool.false_eq_true] at hk <;> simp only [Op.operands] at hx
  case move x =>
    simp only [pureP, movP] at hp ⊢
    cases x with
    | tmp t => simp only at hp ⊢; rw [h.lkx (hx (.tmp t) (by simp) t rfl)]; exact hp
    | _ => exact hp
  case pick c x y =>
    simp only [pureP] at hp ⊢
    rw [h.opv (hx c (by simp)), h.shv (hx x (by simp)), h.shv (hx y (by simp))]; exact hp
  case load T x =>
    simp only [pureP, loadP] at hp ⊢
    split at hp
    · exact hp
    · rename_i ti hti
      cases x with
      | tmp t =>
        simp only [h.lkx (hx (.tmp t) (by simp) t rfl), h.B] at hp ⊢
        cases hc : Go.Pv.lk st.v t with
        | eadr p i off =>
          simp only [hc] at hp ⊢
          rcases h.at p with e | ⟨e1, e2⟩
          · rw [e]; exact hp
          · cases hq : st.at p <;> simp [hq, isShD] at e1 hp
        | sh m => cases m <;> simp only [hc] at hp ⊢ <;> exact hp
        | _ => simp only [hc] at hp ⊢ <;> exact hp
      | _ => exact hp
  case nilCheck x =>
    simp only [pureP, ncP] at hp ⊢
    cases x with
    | tmp t => simp only [h.lkx (hx (.tmp t) (by simp) t rfl)] at hp ⊢; exact hp
    | _ => exact hp
  case binOp op T x y ty =>
    simp only [pureP, binE] at hp ⊢
    have hn : nilness st' x = nilness st x := by
      cases x with
      | tmp t =>
        simp only [nilness, h.lkx (hx (.tmp t) (by simp) t rfl)]
        cases hc : Go.Pv.lk st.v t with
        | al p =>
          simp only
          rcases h.at p with e | ⟨e1, e2⟩
          · rw [e]
          · rw [e2]
            cases hq : st.at p <;> simp [hq, isShD] at e1 ⊢
        | sh m => cases m <;> first | rfl | (rename_i es; cases es <;> rfl)
        | own sz m => cases m <;> first | rfl | (rename_i es; cases es <;> rfl)
        | _ => rfl
      | _ => rfl
    rw [hn, h.opv (hx x (by simp)), h.opv (hx y (by simp))]; exact hp
  case unOp op T x =>
    simp only [pureP] at hp ⊢
    rw [h.opv (hx x (by simp))]; exact hp
  case convert s d x =>
    simp only [pureP] at hp ⊢
    rw [h.opv (hx x (by simp))]; exact hp
  case makeFunc fn fs cs =>
    cases fn <;> simp only [pureP] at hp ⊢
    · rw [h.shvs (fun x hxx t e => hx x (by have := Array.mem_toList_iff.1 hxx; simp [this]) t e)]; exact hp
    all_goals exact hp
  case slice T x lo hi mx =>
    cases mx with
    | some m => simp only [pureP] at hp
    | none =>
      simp only [pureP, sliceP] at hp ⊢
      have hlo : ∀ n, bndOf st' n lo = bndOf st n lo := fun n => h.bnd n (fun y hy => hx y (by subst hy; simp))
      have hhi : ∀ n, bndOf st' n hi = bndOf st n hi := fun n => h.bnd n (fun y hy => hx y (by subst hy; cases lo <;> simp))
      cases x with
      | tmp t =>
        simp only [hlo, hhi, h.opv (hx (.tmp t) (by simp)), h.lkx (hx (.tmp t) (by simp) t rfl)]; exact hp
      | const v => simp only [hlo, hhi, h.opv (x := .const v) (fun t e => by cases e)]; exact hp
      | func v => simp only [hlo, hhi, h.opv (x := .func v) (fun t e => by cases e)]; exact hp
      | global v => simp only [hlo, hhi, h.opv (x := .global v) (fun t e => by cases e)]; exact hp
  case fieldAddr T x f =>
    simp only [pureP, faP] at hp ⊢
    cases x with
    | tmp t => simp only [h.lkx (hx (.tmp t) (by simp) t rfl)] at hp ⊢; exact hp
    | _ => exact hp
  case field T x f =>
    simp only [pureP, fieldP] at hp ⊢
    rw [h.opv (hx x (by simp))]; exact hp
  case indexAddr T x i =>
    simp only [pureP, iaP] at hp ⊢
    cases x with
    | tmp t =>
      simp only [h.opv (hx i (by simp)), h.lkx (hx (.tmp t) (by simp) t rfl)] at hp ⊢
      cases hc : Go.Pv.lk st.v t with
      | al p =>
        simp only [hc] at hp ⊢
        rcases h.at p with e | ⟨e1, e2⟩
        · rw [e]; exact hp
        · exfalso
          split at hp
          · split at hp
            · obtain ⟨_, _, hp⟩ := hp
              cases hq : st.at p <;> simp [hq, isShD] at e1 hp
            · exact hp
          · exact hp
      | sh m => cases m <;> simp only [hc] at hp ⊢ <;> exact hp
      | own sz m => cases m <;> simp only [hc] at hp ⊢ <;> exact hp
      | _ => simp only [hc] at hp ⊢ <;> exact hp
    | _ => simp only [h.opv (hx i (by simp))] at hp ⊢; exact hp
  case index T x i =>
    simp only [pureP, idxP] at hp ⊢
    rw [h.opv (hx x (by simp)), h.opv (hx i (by simp))]; exact hp
  case extract x i =>
    simp only [pureP, extP] at hp ⊢
    cases x with
    | tmp t => simp only [h.lkx (hx (.tmp t) (by simp) t rfl)] at hp ⊢; exact hp
    | _ => exact hp
  case call c =>
    obtain ⟨cal, args, tys⟩ := c
    simp only [Call.operands] at hx
    have hargs : ∀ x ∈ args.toList, ∀ t, x = .tmp t → memN ds t = false := fun x hxx t e => hx x (by have := Array.mem_toList_iff.1 hxx; simp [this]) t e
    cases cal with
    | builtin b =>
      cases b <;> simp only [Bool.false_eq_true] at hk <;> simp only [pureP] at hp ⊢
      · cases hl : args.toList with
        | nil => simp only [hl] at hp
        | cons x r =>
          cases r with
          | nil => simp only [hl] at hp ⊢; rw [h.opv (hargs x (by rw [hl]; simp))]; exact hp
          | cons y q => simp only [hl] at hp
      · rw [h.opvs hargs]; exact hp
      · rw [h.opvs hargs]; exact hp
    | _ => simp at hk


/-! ### Acts that differ in some slots -/
/-- x is y, with other values in these slots. -/
structure Ag (ds : List Nat) (x y : Act) : Prop where
  defers : x.defers = y.defers
  size : x.tmps.size = y.tmps.size
  same : ∀ s, memN ds s = false → x.tmps[s]? = y.tmps[s]?

theorem Ag.refl (ds : List Nat) (x : Act) : Ag ds x x := ⟨rfl, rfl, fun _ _ => rfl⟩

theorem Ag.put {ds : List Nat} {x y : Act} (h : Ag ds x y) (d : Option Tmp) (v : Value) : Ag ds (x.put d v) (y.put d v) := by
  cases d with
  | none => exact h
  | some d =>
    refine ⟨h.defers, by simp [Act.put, h.size], fun s hs => ?_⟩
    simp only [Act.put, Array.getElem?_setIfInBounds, h.size]
    rw [h.same s hs]

theorem Ag.getD {ds : List Nat} {x y : Act} (h : Ag ds x y) {s : Nat} (hs : memN ds s = false) : x.tmps.getD s undef = y.tmps.getD s undef := by
  rw [Array.getD_eq_getD_getElem?, Array.getD_eq_getD_getElem?, h.same s hs]

theorem memN_iff {ds : List Nat} {s : Nat} : memN ds s = true ↔ s ∈ ds := by
  induction ds with
  | nil => simp [memN]
  | cons x r ih =>
    by_cases h : x = s
    · simp [memN, h]
    · simp only [memN, h, if_false, ih, List.mem_cons]
      constructor
      · exact .inr
      · rintro (e | e)
        · exact absurd e.symm h
        · exact e

theorem Ag.eval {ds : List Nat} {x y : Act} (h : Ag ds x y) (o : Operand) (ho : ∀ t, o = .tmp t → memN ds t = false) : x.eval o = y.eval o := by
  cases o with
  | tmp t =>
    have := h.getD (ho t rfl)
    simpa [Act.eval] using this
  | _ => rfl

theorem Rel.ext (h : Rel γ ω w nt st a) (hB : st'.B = st.B) (hv : ∀ s, lk st'.v s = lk st.v s) : Rel γ ω w nt st' a := by
  have hat : ∀ p, st'.at p = st.at p := fun p => by cases p <;> simp only [St.at, hB, hv]
  refine ⟨h.size, h.defers, h.lt, by rw [hB]; exact h.boxes, fun s => ?_⟩
  rw [hv]
  have hold := h.slots s
  cases hc : lk st.v s with
  | al p => rw [hc] at hold; obtain ⟨⟨sz, m, h1⟩, h2⟩ := hold; exact ⟨⟨sz, m, (hat p).trans h1⟩, h2⟩
  | eadr p i o => rw [hc] at hold; obtain ⟨sz, es, u, blk, h1, h2⟩ := hold; exact ⟨sz, es, u, blk, (hat p).trans h1, h2⟩
  | sh m => rw [hc] at hold; exact hold
  | own sz m => rw [hc] at hold; exact hold
  | tupc cs => rw [hc] at hold; exact hold
  | siter s' pos => rw [hc] at hold; exact hold
  | dead => trivial

/-- What is not known may differ. -/
theorem Rel.less {ds : List Nat} {a' : Act} (h : Rel γ ω w nt st a') (hl : Less ds st st') (ha : Ag ds a' a) : Rel γ ω w nt st' a := by
  refine ⟨by rw [← ha.size]; exact h.size, by rw [← ha.defers]; exact h.defers, h.lt, by rw [hl.B]; exact h.boxes, fun s => ?_⟩
  rw [hl.lk]
  cases hs : memN ds s with
  | true => exact (trivial : CtRep γ ω w st' a.tmps (.slot s) .dead _)
  | false =>
    have hold := h.slots s
    rw [ha.getD hs] at hold
    have hcur : ∀ p u, (∃ sz m, st.at p = .own sz m) → p.cur γ a'.tmps w u → p.cur γ a.tmps w u ∧ st'.at p = st.at p := by
      intro p u hp hu
      obtain ⟨sz, m, hp⟩ := hp
      have hat : st'.at p = st.at p := by
        rcases hl.at p with e | ⟨e1, _⟩
        · exact e
        · rw [hp] at e1; simp [isShD] at e1
      refine ⟨?_, hat⟩
      cases p with
      | slot s1 =>
        have : memN ds s1 = false := by
          cases hm : memN ds s1 with
          | false => rfl
          | true => have := hl.sh s1 hm; simp only [St.at] at hp; rw [hp] at this; simp [isShD] at this
        simp only [Place.cur] at hu ⊢
        rw [← ha.getD this]; exact hu
      | cell k o => exact hu
    simp only [Bool.false_eq_true, if_false]
    cases hc : lk st.v s with
    | al p =>
      rw [hc] at hold
      obtain ⟨⟨sz, m, h1⟩, h2⟩ := hold
      obtain ⟨h3, h4⟩ := hcur p _ ⟨sz, m, h1⟩ h2
      exact ⟨⟨sz, m, h4.trans h1⟩, h3⟩
    | eadr p i o =>
      rw [hc] at hold
      obtain ⟨sz, es, u, blk, h1, h2, h3, h4⟩ := hold
      obtain ⟨h5, h6⟩ := hcur p _ ⟨sz, _, h1⟩ h3
      exact ⟨sz, es, u, blk, h6.trans h1, h2, h5, h4⟩
    | sh m => rw [hc] at hold; exact hold
    | own sz m => rw [hc] at hold; exact hold
    | tupc cs => rw [hc] at hold; exact hold
    | siter s' pos => rw [hc] at hold; exact hold
    | dead => trivial

theorem less_kill {ds : List Nat} (hsh : ∀ s, memN ds s = true → isShD (lk st.v s) = true) : Less ds st ⟨killL ds st.v, st.B⟩ := ⟨rfl, fun s => lk_killL ds st.v s, hsh⟩

end
end Go.Pv

end M22
section M23
/- A library of this session: regions whose order is open: what may wait, and the rules. -/
set_option linter.unusedVariables false
set_option linter.unusedSimpArgs false
namespace Go.Pv

def wantP (ops : Array Oper) (st : St) (o : Oper) : Option Bool :=
  match o.guard with
  | none => some true
  | some (j, want) => match (ops[j]?).bind (·.dst) with
    | some d => match lk st.v d with
      | .sh (.bool b) => some (b == want)
      | .sh (.tup []) => some false
      | _ => none
    | none => none

/-- Done now, the operation comes to what its slot holds already. -/
def StillO (P : Program) (nt : Nat) (ops : Array Oper) (st : St) (o : Oper) (d : Nat) : Prop :=
  d < nt ∧ pureK o.op = true ∧ isShD (lk st.v d) = true ∧ (match wantP ops st o with
    | some true => pureP P st o.op (fun c => c = lk st.v d)
    | some false => lk st.v d = .sh (.tup [])
    | none => False)

def Still (P : Program) (nt : Nat) (ops : Array Oper) (st : St) (i : Nat) : Prop :=
  match ops[i]? with
  | some o => match o.dst with
    | some d => StillO P nt ops st o d
    | none => False
  | none => False

def stillAll (P : Program) (nt : Nat) (ops : Array Oper) (st : St) : List Nat → Prop
  | [] => True
  | i :: r => Still P nt ops st i ∧ stillAll P nt ops st r

theorem stillAll_get {P : Program} {nt : Nat} {ops : Array Oper} {st : St} : ∀ {l : List Nat}, stillAll P nt ops st l → ∀ i ∈ l, Still P nt ops st i
  | [], _, i, hi => by simp at hi
  | j :: r, h, i, hi => by
    rcases List.mem_cons.1 hi with e | e
    · rw [e]; exact h.1
    · exact stillAll_get h.2 i e

theorem Still.get {P : Program} {nt : Nat} {ops : Array Oper} {st : St} {i : Nat} (h : Still P nt ops st i) : ∃ o d, ops[i]? = some o ∧ o.dst = some d ∧ StillO P nt ops st o d := by
  unfold Still at h
  split at h
  · rename_i o ho
    split at h
    · rename_i d hd; exact ⟨o, d, ho, hd, h⟩
    · exact h.elim
  · exact h.elim

def dstN (ops : Array Oper) (i : Nat) : Option Nat := (ops[i]?).bind (·.dst)

def dss (ops : Array Oper) : List Nat → List Nat
  | [] => []
  | i :: r => match dstN ops i with
    | some d => d :: dss ops r
    | none => dss ops r

theorem dss_mem {ops : Array Oper} : ∀ {D : List Nat} {s : Nat}, memN (dss ops D) s = true ↔ ∃ i ∈ D, dstN ops i = some s
  | [], s => by simp [dss, memN]
  | i :: r, s => by
    have ih := dss_mem (ops := ops) (D := r) (s := s)
    cases hd : dstN ops i with
    | none =>
      simp only [dss, hd, ih]
      constructor
      · rintro ⟨j, h1, h2⟩; exact ⟨j, List.mem_cons_of_mem _ h1, h2⟩
      · rintro ⟨j, h1, h2⟩
        rcases List.mem_cons.1 h1 with e | e
        · subst e; rw [hd] at h2; simp at h2
        · exact ⟨j, e, h2⟩
    | some d =>
      simp only [dss, hd, memN]
      by_cases h : d = s
      · simp only [h, if_true, true_iff]; exact ⟨i, by simp, by rw [hd, h]⟩
      · simp only [h, if_false, ih]
        constructor
        · rintro ⟨j, h1, h2⟩; exact ⟨j, List.mem_cons_of_mem _ h1, h2⟩
        · rintro ⟨j, h1, h2⟩
          rcases List.mem_cons.1 h1 with e | e
          · subst e; rw [hd] at h2; injection h2 with h2; exact absurd h2 h
          · exact ⟨j, e, h2⟩

/-- None reads what a later one of the list writes; no two write the same. The newest stands first. -/
def Srt (ops : Array Oper) : List Nat → Prop
  | [] => True
  | i :: r => (∀ j ∈ i :: r, ∀ o d, ops[j]? = some o → dstN ops i = some d → d ∉ o.looksAt ops) ∧ (∀ j ∈ r, dstN ops j ≠ dstN ops i) ∧ Srt ops r

section
variable {P : Program} {γ : List Nat} {ω : Own} {w : World} {nt : Nat} {st st' : St} {a : Act} {ops : Array Oper}

theorem operand_looks {o : Oper} {t : Nat} (h : Operand.tmp t ∈ o.op.operands) : t ∈ o.looksAt ops :=
  List.mem_append_left _ (List.mem_filterMap.2 ⟨.tmp t, by simpa using h, rfl⟩)

theorem guard_looks {o : Oper} {j : Nat} {want : Bool} (hg : o.guard = some (j, want)) {d : Nat} (hd : (ops[j]?).bind (·.dst) = some d) : d ∈ o.looksAt ops := by
  refine List.mem_append_right _ ?_
  rw [hg]; simp [hd]

theorem Less.want {ds : List Nat} (h : Less ds st st') {o : Oper} (hx : ∀ t ∈ o.looksAt ops, memN ds t = false) : wantP ops st' o = wantP ops st o := by
  unfold wantP
  cases hg : o.guard with
  | none => rfl
  | some x =>
    obtain ⟨j, want⟩ := x
    simp only
    cases hd : (ops[j]?).bind (·.dst) with
    | none => rfl
    | some d => simp only; rw [h.lkx (hx d (guard_looks hg hd))]

theorem StillO.less {ds : List Nat} (h : Less ds st st') {o : Oper} {d : Nat} (hx : ∀ t ∈ o.looksAt ops, memN ds t = false) (hd : memN ds d = false) (hs : StillO P nt ops st o d) : StillO P nt ops st' o d := by
  obtain ⟨h1, h2, h3, h4⟩ := hs
  refine ⟨h1, h2, by rw [h.lkx hd]; exact h3, ?_⟩
  rw [h.want hx, h.lkx hd]
  split at h4
  · exact h.pure h2 (fun x hxx t e => hx t (operand_looks (by rw [← e]; exact hxx))) h4
  · exact h4
  · exact h4

theorem lk_put_dead {d : Nat} (hd : lk st.v d = .dead) {c : Ct} (hc : isShD c = true) (s : Nat) : lk (st.put d c).v s = if d = s then c else lk st.v s := by
  simp only [St.put, hd, lk_pt]
  cases c <;> simp [isShD] at hc <;> simp [Ct.refs]

/-- Values for what waits. -/
theorem fill : ∀ (D : List Nat) {st : St} {a : Act}, Srt ops D → (∀ i ∈ D, Still P nt ops st i) → Rel γ ω w nt ⟨killL (dss ops D) st.v, st.B⟩ a → ∃ a', Rel γ ω w nt st a' ∧ Ag (dss ops D) a' a
  | [], st, a, _, _, h => ⟨a, h.ext rfl (fun s => by simp only [lk_killL]; simp [dss, memN]), Ag.refl _ _⟩
  | i :: r, st, a, hs, hst, h => by
    obtain ⟨h1, h2, h3⟩ := hs
    obtain ⟨o, d, ho, hd, hso⟩ := (hst i (by simp)).get
    have hdn : dstN ops i = some d := by simp [dstN, ho, hd]
    have hds : dss ops (i :: r) = d :: dss ops r := by simp [dss, hdn]
    have hl : Less [d] st ⟨killL [d] st.v, st.B⟩ := less_kill (fun s hs => by
      have : s = d := by simpa [memN, eq_comm] using hs
      subst this; exact hso.2.2.1)
    have hnl : ∀ j ∈ i :: r, ∀ o, ops[j]? = some o → ∀ t ∈ o.looksAt ops, memN [d] t = false := by
      intro j hj o' ho' t ht
      have := h1 j hj o' d ho' hdn
      have hne : d ≠ t := fun e => this (e ▸ ht)
      simp [memN, hne]
    have hst1 : ∀ j ∈ r, Still P nt ops ⟨killL [d] st.v, st.B⟩ j := by
      intro j hj
      obtain ⟨o', d', ho', hd', hso'⟩ := (hst j (List.mem_cons_of_mem _ hj)).get
      have hdj : dstN ops j = some d' := by simp [dstN, ho', hd']
      have hne : d ≠ d' := fun e => h2 j hj (by rw [hdj, hdn, e])
      have := hso'.less hl (hnl j (List.mem_cons_of_mem _ hj) o' ho') (by simp [memN, hne])
      simp only [Still, ho', hd']; exact this
    obtain ⟨a1, hR1, hA1⟩ := fill r (st := ⟨killL [d] st.v, st.B⟩) h3 hst1 (h.ext rfl (fun s => by
      simp only [lk_killL, hds, memN]
      by_cases e : d = s
      · subst e; simp
      · simp [e]))
    have hdead : lk (killL [d] st.v) d = .dead := by rw [lk_killL]; simp [memN]
    have hlk : ∀ s, d ≠ s → lk (killL [d] st.v) s = lk st.v s := fun s e => by rw [lk_killL]; simp [memN, e]
    obtain ⟨g1, g2, g3, g4⟩ := hso
    split at g4
    · have hp := hl.pure g2 (fun x hxx t e => hnl i (by simp) o ho t (operand_looks (by rw [← e]; exact hxx))) g4
      obtain ⟨c, v, q1, q2, q3⟩ := pure_ok hR1 hp
      refine ⟨a1.put (some d) v, (hR1.put g1 (q2 (.slot d))).ext rfl (fun s => ?_), ⟨hA1.defers, by simp [Act.put, hA1.size], fun s hs => ?_⟩⟩
      · rw [lk_put_dead hdead (by rw [q3]; exact g3)]
        by_cases e : d = s
        · subst e; simp [q3]
        · simp only [e, if_false]; exact (hlk s e).symm
      · rw [hds] at hs
        by_cases e : d = s
        · subst e; simp [memN] at hs
        · simp only [memN, e, if_false] at hs
          simp only [Act.put]
          rw [Array.getElem?_setIfInBounds_ne e]
          exact hA1.same s hs
    · refine ⟨a1.put (some d) undef, (hR1.put g1 (c := .sh (.tup [])) rep_undef).ext rfl (fun s => ?_), ⟨hA1.defers, by simp [Act.put, hA1.size], fun s hs => ?_⟩⟩
      · rw [lk_put_dead hdead rfl]
        by_cases e : d = s
        · subst e; simp [g4]
        · simp only [e, if_false]; exact (hlk s e).symm
      · rw [hds] at hs
        by_cases e : d = s
        · subst e; simp [memN] at hs
        · simp only [memN, e, if_false] at hs
          simp only [Act.put]
          rw [Array.getElem?_setIfInBounds_ne e]
          exact hA1.same s hs
    · exact g4.elim

/-- The same operation from acts that differ in what it does not look at. -/
theorem wp_move {o : Oper} {ds : List Nat} {x y : Act} (hA : Ag ds x y) (hs : ∀ cs b, o.op ≠ .select cs b) (hl : ∀ t ∈ o.looksAt ops, memN ds t = false) {K : Act → World → Prop} {Q : Exit → Act → World → Prop}
    (h : o.wp P x w K (fun _ _ _ => False)) : o.wp P y w (fun y' w' => ∃ x', K x' w' ∧ Ag ds x' y') Q := by
  have he : execOp x.eval o = execOp y.eval o := execOp_congr o hs (fun z hz => hA.eval z (fun t e => hl t (operand_looks (by rw [← e]; exact hz))))
  unfold Oper.wp at h ⊢
  rw [he] at h
  generalize (execOp y.eval o).run P w = r at h
  cases r with
  | halt h' w' => cases h' <;> exact h.elim
  | ok n w' =>
    cases n with
    | value v => exact ⟨_, h, hA.put _ _⟩
    | skip => exact ⟨_, h, hA.put _ _⟩
    | defer d => exact ⟨_, h, (Ag.put (x := { x with defers := d :: x.defers }) (y := { y with defers := d :: y.defers }) ⟨by simp [hA.defers], hA.size, hA.same⟩ _ _)⟩
    | enter f args =>
      simp only [Oper.upon] at h ⊢
      refine Calls.mono h fun e w'' hh => ?_
      cases e with
      | returned v => exact ⟨_, hh, hA.put _ _⟩
      | panicked ch => exact hh.elim
      | outgrown => simp [LetsOut] at hh
    | row rw_ args =>
      simp only [Oper.upon] at h ⊢
      exact Rows.mono h fun v w'' hh => ⟨_, hh, hA.put _ _⟩
    | _ => exact h.elim

theorem gd_exec {fz : List Nat} {o : Oper} {k : Nat} (ho : ops[k]? = some o) (hs : ∀ cs b, o.op ≠ .select cs b) {K : St → Prop} (hx : gdP P nt fz ops o st K) {x : Act} (h : Rel γ ω w nt st x) {ds : List Nat} (hA : Ag ds x a) (hl : ∀ t ∈ o.looksAt ops, memN ds t = false) (Q : Exit → Act → World → Prop) :
    wpOp P ops Q k (fun a' w' => ∃ γ' ω' st' x', Chg NotOuter γ ω w γ' ω' w' ∧ Rel γ' ω' w' nt st' x' ∧ K st' ∧ Ag ds x' a') a w := by
  have fin : ∀ (hx : opP P nt fz o st K), o.wp P a w (fun a' w' => ∃ γ' ω' st' x', Chg NotOuter γ ω w γ' ω' w' ∧ Rel γ' ω' w' nt st' x' ∧ K st' ∧ Ag ds x' a') Q := by
    intro hx
    have := wp_move (ops := ops) hA hs hl (Q := Q) (op_ok h hx (fun _ _ _ => False))
    refine Oper.wp_mono (fun a' w' hh => ?_) this
    obtain ⟨x', ⟨γ', ω', st', h1, h2, h3⟩, h4⟩ := hh
    exact ⟨γ', ω', st', x', h1, h2, h3, h4⟩
  unfold wpOp
  simp only [ho]
  unfold gdP at hx
  split at hx
  · rename_i hg
    have hw : Region.wanted o (yielded ops a.tmps) = true := by simp [Region.wanted, hg]
    rw [if_pos hw]
    exact .inl (fin hx)
  · rename_i j want hg
    split at hx
    · rename_i d hd
      split at hx
      · rename_i b hb
        have hr : Rep γ ω w (.bool b) (x.eval (.tmp d)) := slot_rep h d hb
        have hv : x.tmps.getD d undef = .bool b := Val.bool (.inl hr)
        rw [hA.getD (hl d (guard_looks hg hd))] at hv
        have hsome : a.tmps[d]? = some (.bool b) := by
          rw [Array.getD_eq_getD_getElem?] at hv
          cases hq : a.tmps[d]? with
          | none => rw [hq] at hv; simp [undef] at hv
          | some u => rw [hq] at hv; simp at hv; rw [hv]
        have hy : yielded ops a.tmps j = some b := by
          unfold yielded
          rw [hd]
          simp [hsome]
        by_cases hbw : b = want
        · rw [if_pos hbw] at hx
          have hw : Region.wanted o (yielded ops a.tmps) = true := by simp [Region.wanted, hg, hy, hbw]
          rw [if_pos hw]
          exact .inl (fin hx)
        · rw [if_neg hbw] at hx
          have hw : Region.wanted o (yielded ops a.tmps) = false := by
            simp [Region.wanted, hg, hy]; exact hbw
          rw [if_neg (by rw [hw]; simp)]
          exact ⟨γ, ω, _, _, Chg.refl _ _ _ _, h.putO (dOk_iff hx.1) (c := .sh (.tup [])) (v := undef) (fun t _ => rep_undef), hx.2, hA.put _ _⟩
      · rename_i hb
        have hr : Rep γ ω w (.tup []) (x.eval (.tmp d)) := slot_rep h d hb
        have hv : x.tmps.getD d undef = .tuple #[] := rep_tup0 hr
        rw [hA.getD (hl d (guard_looks hg hd))] at hv
        have hy : yielded ops a.tmps j = none := by
          unfold yielded
          rw [hd]
          simp only [Option.bind_some]
          rw [Array.getD_eq_getD_getElem?] at hv
          cases hq : a.tmps[d]? with
          | none => rfl
          | some u => rw [hq] at hv; simp only [Option.getD_some] at hv; rw [hv]
        have hw : Region.wanted o (yielded ops a.tmps) = false := by
          simp [Region.wanted, hg, hy]
        rw [if_neg (by rw [hw]; simp)]
        exact ⟨γ, ω, _, _, Chg.refl _ _ _ _, h.putO (dOk_iff hx.1) (c := .sh (.tup [])) (v := undef) (fun t _ => rep_undef), hx.2, hA.put _ _⟩
      · exact hx.elim
    · exact hx.elim

end
end Go.Pv

end M23
section M24
/- A library of this session: regions whose order is open: the rules. -/
set_option linter.unusedVariables false
set_option linter.unusedSimpArgs false
namespace Go.Pv

def isSel : Op → Bool
  | .select .. => true
  | _ => false

def bindsOn (o : Oper) (i : Nat) : Bool := o.after.any fun e => Region.binds .any e && e.on == i

/-- What a region must keep to. -/
def regOk (ops : Array Oper) : Bool :=
  (List.range ops.size).all fun j => match ops[j]? with
    | none => false
    | some o => (o.after.all fun e => !Region.binds .any e || decide (e.on < j)) && !isSel o.op &&
      (List.range ops.size).all fun i => match ops[i]? with
        | none => false
        | some oi => !pureK oi.op || (match oi.dst with
          | none => true
          | some d => !(o.looksAt ops).contains d || (i != j && bindsOn o i))

def okTake (ops : Array Oper) (S : List Nat) (i : Nat) : Bool :=
  match ops[i]? with
  | none => false
  | some oi => match oi.dst with
    | none => false
    | some d => (i :: S).all (fun j => match ops[j]? with
      | none => true
      | some o => !(o.looksAt ops).contains d) && S.all (fun j => dstN ops j != some d) && pureK oi.op

section
variable {P : Program} {γ : List Nat} {ω : Own} {w : World} {nt : Nat} {st st' : St} {a : Act} {ops : Array Oper}

theorem regOk_get (h : regOk ops = true) {j : Nat} {o : Oper} (ho : ops[j]? = some o) : (∀ e ∈ o.after, Region.binds .any e = true → e.on < j) ∧ (∀ cs b, o.op ≠ .select cs b) ∧
    ∀ i oi d, ops[i]? = some oi → pureK oi.op = true → oi.dst = some d → d ∈ o.looksAt ops → i ≠ j ∧ ∃ e ∈ o.after, Region.binds .any e = true ∧ e.on = i := by
  have hj : j < ops.size := (Array.getElem?_eq_some_iff.1 ho).1
  have h1 := List.all_eq_true.1 h j (List.mem_range.2 hj)
  simp only [ho, Bool.and_eq_true] at h1
  obtain ⟨⟨h1, h2⟩, h3⟩ := h1
  refine ⟨fun e he hb => ?_, fun cs b e => ?_, fun i oi d hi hp hd hm => ?_⟩
  · have := Array.all_eq_true_iff_forall_mem.1 h1 e he
    simpa [hb] using this
  · rw [e] at h2; simp [isSel] at h2
  · have hil : i < ops.size := (Array.getElem?_eq_some_iff.1 hi).1
    have := List.all_eq_true.1 h3 i (List.mem_range.2 hil)
    simp only [hi, hp, hd, Bool.not_true, Bool.false_or, Bool.or_eq_true, Bool.not_eq_true', Bool.and_eq_true] at this
    rcases this with h4 | ⟨h4, h5⟩
    · rw [List.contains_iff_mem.2 hm] at h4; simp at h4
    · obtain ⟨e, he, hb⟩ := Array.any_eq_true'.1 h5
      simp only [Bool.and_eq_true, beq_iff_eq] at hb
      exact ⟨by simpa using h4, e, he, hb.1, hb.2⟩

structure Inv (ops : Array Oper) (L D : List Nat) (listed : Array Bool) : Prop where
  size : listed.size = ops.size
  mem : ∀ i, i < ops.size → (listed.getD i false = true ↔ i ∈ L ∧ i ∉ D)

def un (listed : Array Bool) : Nat := ((List.range listed.size).filter fun i => !(listed.getD i false)).length

theorem filter_lt {p q : Nat → Bool} : ∀ {l : List Nat} {j : Nat}, j ∈ l → p j = true → q j = false → (∀ i, q i = true → p i = true) → (l.filter q).length < (l.filter p).length
  | [], j, h, _, _, _ => by simp at h
  | x :: r, j, h, hp, hq, hi => by
    have hle : ∀ l : List Nat, (l.filter q).length ≤ (l.filter p).length := by
      intro l
      induction l with
      | nil => simp
      | cons y t ih =>
        simp only [List.filter_cons]
        cases hqy : q y with
        | true => simp [hi y hqy]; exact ih
        | false => cases p y <;> simp <;> omega
    rcases List.mem_cons.1 h with e | e
    · subst e
      simp only [List.filter_cons, hp, hq]
      have := hle r
      simp; omega
    · have := filter_lt e hp hq hi
      simp only [List.filter_cons]
      cases hqx : q x with
      | true => simp [hi x hqx]; exact this
      | false => cases p x <;> simp <;> omega

theorem getD_lt {listed : Array Bool} {i : Nat} (h : i < listed.size) (d e : Bool) : listed.getD i d = listed.getD i e := by
  simp [Array.getD_eq_getD_getElem?, h]

theorem un_set {listed : Array Bool} {i : Nat} (h : i < listed.size) (hu : listed.getD i false = false) : un (listed.setIfInBounds i true) < un listed := by
  unfold un
  have hs : (listed.setIfInBounds i true).size = listed.size := by simp
  rw [hs]
  refine filter_lt (j := i) (List.mem_range.2 h) (by simp [hu]) (by simp [h]) (fun k hk => ?_)
  by_cases e : i = k
  · subst e; simp [h] at hk
  · rw [getD_set_ne false e] at hk; exact hk

theorem Inv.set {L D : List Nat} {listed : Array Bool} (h : Inv ops L D listed) {k : Nat} {L' D' : List Nat} (hk : k ∈ L') (hk' : k ∉ D') (hm : ∀ i, i ≠ k → ((i ∈ L' ∧ i ∉ D') ↔ (i ∈ L ∧ i ∉ D))) : Inv ops L' D' (listed.setIfInBounds k true) := by
  refine ⟨by simp [h.size], fun i hi => ?_⟩
  by_cases e : k = i
  · subst e
    have : k < listed.size := by rw [h.size]; exact hi
    simp [this, hk, hk']
  · rw [getD_set_ne false e, h.mem i hi, hm i (fun x => e x.symm)]

/-- What an operation that is ready looks at does not wait. -/
theorem ready_apart (hreg : regOk ops = true) {L D : List Nat} {listed : Array Bool} (hI : Inv ops L D listed) (hst : ∀ i ∈ D, Still P nt ops st i) {k : Nat} (hk : k ∈ Region.ready .any ops listed) {o : Oper} (ho : ops[k]? = some o) :
    ∀ t ∈ o.looksAt ops, memN (dss ops D) t = false := by
  intro t ht
  cases hm : memN (dss ops D) t with
  | false => rfl
  | true =>
    exfalso
    obtain ⟨i, hi, hd⟩ := dss_mem.1 hm
    obtain ⟨oi, d, hoi, hdi, hso⟩ := (hst i hi).get
    have : d = t := by simp [dstN, hoi, hdi] at hd; exact hd
    subst this
    obtain ⟨_, e, he, hb, hon⟩ := (regOk_get hreg ho).2.2 i oi d hoi hso.2.1 hdi ht
    obtain ⟨hun, o', ho', hall⟩ := mem_ready.1 hk
    rw [ho] at ho'; injection ho' with ho'; subst ho'
    have h1 := hall e he hb
    rw [hon] at h1
    have hil : i < ops.size := (Array.getElem?_eq_some_iff.1 hoi).1
    exact ((hI.mem i hil).1 h1).2 hi

theorem still_sh {D : List Nat} (hst : ∀ i ∈ D, Still P nt ops st i) : ∀ s, memN (dss ops D) s = true → isShD (lk st.v s) = true := by
  intro s hs
  obtain ⟨i, hi, hd⟩ := dss_mem.1 hs
  obtain ⟨oi, d, hoi, hdi, hso⟩ := (hst i hi).get
  have : d = s := by simp [dstN, hoi, hdi] at hd; exact hd
  subst this
  exact hso.2.2.1

/-- What waits is done. -/
theorem pend_exec (hreg : regOk ops = true) {L D : List Nat} {listed : Array Bool} (hI : Inv ops L D listed) (hsrt : Srt ops D) (hst : ∀ i ∈ D, Still P nt ops st i) {k : Nat} (hkD : k ∈ D) (hk : k ∈ Region.ready .any ops listed)
    (h : Rel γ ω w nt ⟨killL (dss ops D) st.v, st.B⟩ a) (Q : Exit → Act → World → Prop) :
    wpOp P ops Q k (fun a' w' => w' = w ∧ Rel γ ω w nt ⟨killL (dss ops (D.filter (· != k))) st.v, st.B⟩ a') a w := by
  obtain ⟨x, hRx, hA⟩ := fill D hsrt hst h
  obtain ⟨o, d, ho, hd, g1, g2, g3, g4⟩ := (hst k hkD).get
  have hl := ready_apart hreg hI hst hk ho
  have hdk : dstN ops k = some d := by simp [dstN, ho, hd]
  -- the act behind it
  have fin : ∀ v, CtRep γ ω w st x.tmps (.slot d) (lk st.v d) v → Rel γ ω w nt ⟨killL (dss ops (D.filter (· != k))) st.v, st.B⟩ (a.put o.dst v) := by
    intro v hv
    have hR2 : Rel γ ω w nt st (x.put (some d) v) := by
      have hX : Rel γ ω w nt ⟨killL [d] st.v, st.B⟩ x := hRx.less (less_kill (fun s hs => by
        have : s = d := by simpa [memN, eq_comm] using hs
        subst this; exact g3)) (Ag.refl _ _)
      have hdead : lk (killL [d] st.v) d = .dead := by rw [lk_killL]; simp [memN]
      have hv' : CtRep γ ω w ⟨killL [d] st.v, st.B⟩ x.tmps (.slot d) (lk st.v d) v := by
        cases hc : lk st.v d with
        | sh m => rw [hc] at hv; exact hv
        | dead => trivial
        | _ => rw [hc] at g3; simp [isShD] at g3
      refine (hX.put g1 hv').ext rfl (fun s => ?_)
      rw [lk_put_dead hdead g3]
      by_cases e : d = s
      · subst e; simp
      · simp only [e, if_false]; rw [lk_killL]; simp [memN, e]
    refine hR2.less (ds := dss ops (D.filter (· != k))) (less_kill (fun s hs => ?_)) ?_
    · obtain ⟨i, hi, hdi⟩ := dss_mem.1 hs
      exact still_sh hst s (dss_mem.2 ⟨i, (List.mem_filter.1 hi).1, hdi⟩)
    · rw [hd]
      refine ⟨hA.defers, by simp [Act.put, hA.size], fun s hs => ?_⟩
      simp only [Act.put, Array.getElem?_setIfInBounds, hA.size]
      by_cases e : d = s
      · simp [e]
      · simp only [e, if_false]
        refine hA.same s ?_
        cases hm : memN (dss ops D) s with
        | false => rfl
        | true =>
          obtain ⟨i, hi, hdi⟩ := dss_mem.1 hm
          have hne : i ≠ k := fun e2 => by subst e2; rw [hdk] at hdi; injection hdi with hdi; exact e hdi
          rw [dss_mem.2 ⟨i, List.mem_filter.2 ⟨hi, by simpa using hne⟩, hdi⟩] at hs; simp at hs
  unfold wpOp
  simp only [ho]
  -- is it wanted?
  have hwant : ∀ b, wantP ops st o = some b → Region.wanted o (yielded ops a.tmps) = b := by
    intro b hb
    unfold wantP at hb
    cases hg : o.guard with
    | none => rw [hg] at hb; simp at hb; subst hb; simp [Region.wanted, hg]
    | some y =>
      obtain ⟨j, want⟩ := y
      rw [hg] at hb
      simp only at hb
      split at hb
      · rename_i d0 hd0
        split at hb
        · rename_i b0 hb0
          injection hb with hb
          have hr : Rep γ ω w (.bool b0) (x.eval (.tmp d0)) := slot_rep hRx d0 hb0
          have hv : x.tmps.getD d0 undef = .bool b0 := Val.bool (.inl hr)
          rw [hA.getD (hl d0 (guard_looks hg hd0))] at hv
          have hsome : a.tmps[d0]? = some (.bool b0) := by
            rw [Array.getD_eq_getD_getElem?] at hv
            cases hq : a.tmps[d0]? with
            | none => rw [hq] at hv; simp [undef] at hv
            | some u => rw [hq] at hv; simp at hv; rw [hv]
          have hy : yielded ops a.tmps j = some b0 := by
            unfold yielded
            rw [hd0]
            simp [hsome]
          simp [Region.wanted, hg, hy, ← hb]
        · rename_i hb0
          injection hb with hb
          have hr : Rep γ ω w (.tup []) (x.eval (.tmp d0)) := slot_rep hRx d0 hb0
          have hv : x.tmps.getD d0 undef = .tuple #[] := rep_tup0 hr
          rw [hA.getD (hl d0 (guard_looks hg hd0))] at hv
          have hy : yielded ops a.tmps j = none := by
            unfold yielded
            rw [hd0]
            simp only [Option.bind_some]
            rw [Array.getD_eq_getD_getElem?] at hv
            cases hq : a.tmps[d0]? with
            | none => rfl
            | some u => rw [hq] at hv; simp only [Option.getD_some] at hv; rw [hv]
          simp [Region.wanted, hg, hy, ← hb]
        · exact absurd hb (by simp)
      · exact absurd hb (by simp)
  split at g4
  · rename_i hw1
    rw [if_pos (hwant _ hw1)]
    refine .inl ?_
    obtain ⟨c, v, q1, q2, q3⟩ := pure_ok hRx g4
    have he : execOp x.eval o = execOp a.eval o := execOp_congr o (regOk_get hreg ho).2.1 (fun z hz => hA.eval z (fun t e => hl t (operand_looks (by rw [← e]; exact hz))))
    unfold Oper.wp
    rw [← he, q1, Oper.upon_value]
    exact ⟨rfl, fin v (by rw [← q3]; exact q2 _)⟩
  · rename_i hw1
    rw [if_neg (by rw [hwant _ hw1]; simp)]
    exact ⟨by trivial, fin undef (by rw [g4]; exact rep_undef)⟩
  · exact g4.elim

theorem Srt.filter {D : List Nat} (p : Nat → Bool) (h : Srt ops D) : Srt ops (D.filter p) := by
  induction D with
  | nil => exact h
  | cons i r ih =>
    obtain ⟨h1, h2, h3⟩ := h
    rw [List.filter_cons]
    split
    · refine ⟨fun j hj => h1 j ?_, fun j hj => h2 j (List.mem_filter.1 hj).1, ih h3⟩
      rcases List.mem_cons.1 hj with e | e
      · rw [e]; simp
      · exact List.mem_cons_of_mem _ (List.mem_filter.1 e).1
    · exact ih h3

/-- From here on every order comes to K. L: what is done; S: what of it may wait still. -/
def Dr (P : Program) (nt : Nat) (fz : List Nat) (ops : Array Oper) (L S : List Nat) (st : St) (K : St → Prop) : Prop :=
  ∀ (γ : List Nat) (ω : Own) (w : World) (a : Act) (D : List Nat) (listed : Array Bool) (fuel : Nat) (Q : Exit → Act → World → Prop), Inv ops L D listed → (∀ i ∈ D, i ∈ S ∧ i ∈ L) → Srt ops D → (∀ i ∈ D, Still P nt ops st i) → un listed ≤ fuel →
    Rel γ ω w nt ⟨killL (dss ops D) st.v, st.B⟩ a → (∀ γ' ω' w' st' a', Chg NotOuter γ ω w γ' ω' w' → Rel γ' ω' w' nt st' a' → K st' → Q .normal a' w') → wpAny P .any ops Q fuel listed a w

theorem un_zero {listed : Array Bool} (h : un listed = 0) {i : Nat} (hi : i < listed.size) : listed.getD i false = true := by
  unfold un at h
  have h1 := List.eq_nil_of_length_eq_zero h
  rw [List.filter_eq_nil_iff] at h1
  have := h1 i (List.mem_range.2 hi)
  simpa using this

theorem ready_nil (hreg : regOk ops = true) {listed : Array Bool} (hs : listed.size = ops.size) (hr : Region.ready .any ops listed = []) : ∀ i, i < ops.size → listed.getD i false = true := by
  intro i
  induction i using Nat.strongRecOn with
  | _ i ih =>
    intro hi
    cases hl : listed.getD i false with
    | true => rfl
    | false =>
      exfalso
      have : i ∈ Region.ready .any ops listed := by
        refine mem_ready.2 ⟨by rw [getD_lt (by omega) true false]; exact hl, ops[i], by simp [hi], fun e he hb => ?_⟩
        have hlt := (regOk_get hreg (j := i) (o := ops[i]) (by simp [hi])).1 e he hb
        exact ih e.on hlt (by omega)
      rw [hr] at this; simp at this

theorem ready_un {listed : Array Bool} (hs : listed.size = ops.size) {k : Nat} (hk : k ∈ Region.ready .any ops listed) : k < ops.size ∧ listed.getD k false = false := by
  obtain ⟨h1, o, ho, _⟩ := mem_ready.1 hk
  have hlt : k < ops.size := (Array.getElem?_eq_some_iff.1 ho).1
  exact ⟨hlt, by rw [getD_lt (by omega) false true]; exact h1⟩

theorem Dr.done {fz L S : List Nat} {K : St → Prop} (hreg : regOk ops = true) (hL : ∀ i, i < ops.size → i ∈ L) (hK : K st) : Dr P nt fz ops L S st K := by
  intro γ ω w a D listed fuel Q hI hS hsrt hst hun h hq
  induction fuel generalizing D listed a with
  | zero =>
    have hall := fun i (hi : i < ops.size) => un_zero (Nat.le_zero.1 hun) (i := i) (by rw [hI.size]; exact hi)
    have hD : ∀ i, i ∉ D := by
      intro i hi
      obtain ⟨o, d, ho, _⟩ := (hst i hi).get
      have hlt : i < ops.size := (Array.getElem?_eq_some_iff.1 ho).1
      exact ((hI.mem i hlt).1 (hall i hlt)).2 hi
    have hD' : D = [] := List.eq_nil_iff_forall_not_mem.2 hD
    subst hD'
    have hr : Region.ready .any ops listed = [] := by
      rw [List.eq_nil_iff_forall_not_mem]
      intro k hk
      obtain ⟨h1, h2⟩ := ready_un hI.size hk
      rw [hall k h1] at h2; simp at h2
    have hR0 : Rel γ ω w nt st a := h.ext rfl (fun s => by simp only [lk_killL]; simp [dss, memN])
    exact ⟨hr, hq _ _ _ _ _ (Chg.refl _ _ _ _) hR0 hK⟩
  | succ fuel ih =>
    refine ⟨fun hr => ?_, fun k hk => ?_⟩
    · have hall := ready_nil hreg hI.size hr
      have hD : ∀ i, i ∉ D := by
        intro i hi
        obtain ⟨o, d, ho, _⟩ := (hst i hi).get
        have hlt : i < ops.size := (Array.getElem?_eq_some_iff.1 ho).1
        exact ((hI.mem i hlt).1 (hall i hlt)).2 hi
      have hD' : D = [] := List.eq_nil_iff_forall_not_mem.2 hD
      subst hD'
      have hR0 : Rel γ ω w nt st a := h.ext rfl (fun s => by simp only [lk_killL]; simp [dss, memN])
      exact hq _ _ _ _ _ (Chg.refl _ _ _ _) hR0 hK
    · obtain ⟨hlt, hu⟩ := ready_un hI.size hk
      have hkD : k ∈ D := by
        rcases Classical.em (k ∈ D) with h1 | h1
        · exact h1
        · have := (hI.mem k hlt).2 ⟨hL k hlt, h1⟩
          rw [this] at hu; simp at hu
      refine wpOp_mono (fun a' w' hh => ?_) (pend_exec hreg hI hsrt hst hkD hk h Q)
      obtain ⟨rfl, hR⟩ := hh
      exact ih _ (D.filter (· != k)) _ (hI.set (hL k hlt) (by simp) (fun i hi => by simp [hi])) (fun i hi => hS i (List.mem_filter.1 hi).1) (hsrt.filter _) (fun i hi => hst i (List.mem_filter.1 hi).1)
        (by have := un_set (by rw [hI.size]; exact hlt) hu; omega) hR

theorem Dr.takeK {fz L S : List Nat} {K : St → Prop} (i : Nat) {o : Oper} {d : Nat} (ho : ops[i]? = some o) (hd : o.dst = some d) (hiL : i ∉ L) (hk : okTake ops S i = true)
    (h : ∀ {γ : List Nat} {ω : Own} {w : World} {x : Act}, Rel γ ω w nt st x → ∃ c v, Rel γ ω w nt (st.put d c) (x.put (some d) v) ∧ stillAll P nt ops (st.put d c) (i :: S) ∧ Dr P nt fz ops (i :: L) (i :: S) (st.put d c) K) : Dr P nt fz ops L S st K := by
  intro γ ω w a D listed fuel Q hI hS hsrt hst hun hR hq
  obtain ⟨x, hRx, hA⟩ := fill D hsrt hst hR
  have hdi : dstN ops i = some d := by simp [dstN, ho, hd]
  simp only [okTake, ho, hd, Bool.and_eq_true] at hk
  obtain ⟨⟨hk1, hk2⟩, hpk⟩ := hk
  obtain ⟨c, v, hR2, hst2, hDr⟩ := h hRx
  have hst3 := stillAll_get hst2
  have hst4 : ∀ j ∈ i :: D, Still P nt ops (st.put d c) j := fun j hj => by
    rcases List.mem_cons.1 hj with e | e
    · exact hst3 j (by rw [e]; simp)
    · exact hst3 j (List.mem_cons_of_mem _ (hS j e).1)
  have hds : dss ops (i :: D) = d :: dss ops D := by simp [dss, hdi]
  refine hDr γ ω w a (i :: D) listed fuel Q ⟨hI.size, fun j hj => ?_⟩ (fun j hj => ?_) ⟨fun j hj o' d' ho' hd' => ?_, fun j hj => ?_, hsrt⟩ hst4 hun ?_ hq
  · rw [hI.mem j hj]
    simp only [List.mem_cons, not_or]
    constructor
    · rintro ⟨h1, h2⟩; exact ⟨.inr h1, fun e => hiL (e ▸ h1), h2⟩
    · rintro ⟨h1, h2, h3⟩
      rcases h1 with e | e
      · exact absurd e h2
      · exact ⟨e, h3⟩
  · rcases List.mem_cons.1 hj with e | e
    · rw [e]; simp
    · exact ⟨List.mem_cons_of_mem _ (hS j e).1, List.mem_cons_of_mem _ (hS j e).2⟩
  · rw [hdi] at hd'; injection hd' with hd'; subst hd'
    have hjS : j ∈ i :: S := by
      rcases List.mem_cons.1 hj with e | e
      · rw [e]; simp
      · exact List.mem_cons_of_mem _ (hS j e).1
    have := List.all_eq_true.1 hk1 j hjS
    simp only [ho', Bool.not_eq_true'] at this
    intro hm
    rw [List.contains_iff_mem.2 hm] at this; simp at this
  · have := List.all_eq_true.1 hk2 j (hS j hj).1
    rw [hdi]
    simpa using this
  · refine hR2.less (less_kill (still_sh hst4)) ?_
    rw [hds]
    refine ⟨hA.defers, by simp [Act.put, hA.size], fun s hs => ?_⟩
    by_cases e : d = s
    · subst e; simp [memN] at hs
    · simp only [memN, e, if_false] at hs
      simp only [Act.put]
      rw [Array.getElem?_setIfInBounds_ne e]
      exact hA.same s hs

/-- Which operations are next? -/
def nextOf (ops : Array Oper) (L : List Nat) : List Nat :=
  (List.range ops.size).filter fun j => !memN L j && (match ops[j]? with
    | some o => o.after.all fun e => !Region.binds .any e || memN L e.on
    | none => false)

def restOf (ops : Array Oper) (S : List Nat) (j : Nat) : List Nat :=
  match ops[j]? with
  | some o => S.filter fun i => !bindsOn o i
  | none => S

def allN (F : Nat → Prop) : List Nat → Prop
  | [] => True
  | [i] => F i
  | i :: r => F i ∧ allN F r

theorem allN_get {F : Nat → Prop} : ∀ {l : List Nat}, allN F l → ∀ i ∈ l, F i
  | [], _, i, hi => by simp at hi
  | [j], h, i, hi => by simp at hi; rw [hi]; exact h
  | j :: k :: r, h, i, hi => by
    rcases List.mem_cons.1 hi with e | e
    · rw [e]; exact h.1
    · exact allN_get h.2 i e

theorem Dr.all {fz L S : List Nat} {K : St → Prop} (hreg : regOk ops = true) {rs : List Nat} (hrs : nextOf ops L = rs) (hne : rs ≠ [])
    (h : allN (fun j => match ops[j]? with
      | some o => gdP P nt fz ops o st (fun st' => stillAll P nt ops st' (restOf ops S j) ∧ Dr P nt fz ops (j :: L) (restOf ops S j) st' K)
      | none => False) rs) : Dr P nt fz ops L S st K := by
  intro γ ω w a D listed fuel Q hI hS hsrt hst hun hR hq
  obtain ⟨m, hm⟩ : ∃ m, m ∈ rs := by cases rs with
    | nil => exact absurd rfl hne
    | cons m r => exact ⟨m, by simp⟩
  have hmL : m < ops.size ∧ m ∉ L := by
    rw [← hrs] at hm
    obtain ⟨h1, h2⟩ := List.mem_filter.1 hm
    refine ⟨List.mem_range.1 h1, fun e => ?_⟩
    simp [memN_iff.2 e] at h2
  have hmore : listed.getD m false = false := by
    cases hl : listed.getD m false with
    | false => rfl
    | true => exact absurd ((hI.mem m hmL.1).1 hl).1 hmL.2
  induction fuel generalizing D listed a with
  | zero =>
    have := un_zero (Nat.le_zero.1 hun) (i := m) (by rw [hI.size]; exact hmL.1)
    rw [this] at hmore; simp at hmore
  | succ fuel ih =>
    refine ⟨fun hr => ?_, fun k hk => ?_⟩
    · have := ready_nil hreg hI.size hr m hmL.1
      rw [this] at hmore; simp at hmore
    · obtain ⟨hlt, hu⟩ := ready_un hI.size hk
      have hun' : un (listed.setIfInBounds k true) ≤ fuel := by have := un_set (by rw [hI.size]; exact hlt) hu; omega
      rcases Classical.em (k ∈ D) with hkD | hkD
      · refine wpOp_mono (fun a' w' hh => ?_) (pend_exec hreg hI hsrt hst hkD hk hR Q)
        obtain ⟨rfl, hR'⟩ := hh
        have h1 : k ∈ L := (hS k hkD).2
        have hI' : Inv ops L (D.filter (· != k)) (listed.setIfInBounds k true) := hI.set h1 (by simp) (fun i hi => by simp [hi])
        refine ih _ (D.filter (· != k)) _ hI' (fun i hi => hS i (List.mem_filter.1 hi).1) (hsrt.filter _) (fun i hi => hst i (List.mem_filter.1 hi).1) hun' hR' ?_
        cases hl : (listed.setIfInBounds k true).getD m false with
        | false => rfl
        | true => exact absurd ((hI'.mem m hmL.1).1 hl).1 hmL.2
      · have hkL : k ∉ L := fun e => by
          have := (hI.mem k hlt).2 ⟨e, hkD⟩
          rw [this] at hu; simp at hu
        obtain ⟨_, o, ho, hall⟩ := mem_ready.1 hk
        have hpre : ∀ e ∈ o.after, Region.binds .any e = true → e.on ∈ L ∧ e.on ∉ D := fun e he hb => by
          have h1 := hall e he hb
          have hlt' : e.on < ops.size := by have := (regOk_get hreg ho).1 e he hb; omega
          exact (hI.mem e.on hlt').1 h1
        have hkrs : k ∈ rs := by
          rw [← hrs]
          refine List.mem_filter.2 ⟨List.mem_range.2 hlt, ?_⟩
          have h1 : memN L k = false := by
            cases hm' : memN L k with
            | false => rfl
            | true => exact absurd (memN_iff.1 hm') hkL
          simp only [h1, ho, Bool.not_false, Bool.true_and, Array.all_eq_true_iff_forall_mem, Bool.or_eq_true, Bool.not_eq_true']
          intro e he
          cases hb : Region.binds .any e with
          | false => exact .inl rfl
          | true => exact .inr (memN_iff.2 (hpre e he hb).1)
        have hg := allN_get h k hkrs
        simp only [ho] at hg
        obtain ⟨x, hRx, hA⟩ := fill D hsrt hst hR
        refine wpOp_mono (fun a' w' hh => ?_) (gd_exec ho (regOk_get hreg ho).2.1 hg hRx hA (ready_apart hreg hI hst hk ho) Q)
        obtain ⟨γ', ω', st', x', h1, h2, ⟨h3, h4⟩, h5⟩ := hh
        have hDS : ∀ i ∈ D, i ∈ restOf ops S k := fun i hi => by
          simp only [restOf, ho]
          refine List.mem_filter.2 ⟨(hS i hi).1, ?_⟩
          cases hb : bindsOn o i with
          | false => rfl
          | true =>
            obtain ⟨e, he, hb⟩ := Array.any_eq_true'.1 hb
            simp only [Bool.and_eq_true, beq_iff_eq] at hb
            exact absurd (hb.2 ▸ hi) (hpre e he hb.1).2
        have hst' : ∀ i ∈ D, Still P nt ops st' i := fun i hi => stillAll_get h3 i (hDS i hi)
        exact h4 γ' ω' w' a' D _ fuel Q (hI.set (by simp) hkD (fun i hi => by simp [hi])) (fun i hi => ⟨hDS i hi, List.mem_cons_of_mem _ (hS i hi).2⟩) hsrt hst' hun' (h2.less (less_kill (still_sh hst')) h5) (fun γ2 ω2 w2 st2 a2 g1 g2 g3 => hq _ _ _ _ _ (h1.trans g1) g2 g3)


/-- A region whose order is open. -/
theorem PW.draw {Q : PX → St → Prop} (fz keep : List Nat) {id : Nat} (hm : P.follows .mixedOrders = true) (hreg : regOk ops = true) (h : Dr P nt fz ops [] [] st (fun st' => Q .normal (st'.keep keep))) : PW P nt (.region id ops true) st Q := by
  intro γ ω w a R hr hk
  refine wp_region_any hm ?_
  have hc : Chg (fun _ => False) γ ω w γ ω { w with drawn := w.drawn + 1 } := ⟨rfl, rfl, rfl, Nat.le_refl _, fun _ _ h => h, fun _ _ h => ⟨rfl, h⟩, fun _ _ _ h _ => ⟨rfl, h⟩⟩
  have hr' : Rel γ ω { w with drawn := w.drawn + 1 } nt st a := hr.grow hc hr.lt
  refine h γ ω _ a [] _ ops.size R ⟨by simp, fun i hi => ?_⟩ (by simp) trivial (by simp) ?_ (hr'.ext rfl (fun s => by simp only [lk_killL]; simp [dss, memN])) (fun γ' ω' w' st' a' h1 h2 h3 => ?_)
  · simp [hi]
  · have hs : (Array.replicate ops.size false).size = ops.size := by simp
    unfold un
    rw [hs]
    exact Nat.le_trans (List.length_filter_le _ _) (by simp)
  · exact hk .normal _ _ _ _ _ ((hc.mono (fun _ h => h.elim)).trans h1) (h2.keep keep) h3

end
end Go.Pv

end M24
section M25
/- A library of this session: the road to the contract of a function that turns boxes. -/
set_option linter.unusedVariables false
set_option linter.unusedSimpArgs false
namespace Go.Pv

def postBP (P : Program) (rs : List ResultVar) (r : Res) (B' : List (Option (List Ct))) : PX → St → Prop
  | .normal, st' | .ret, st' => resP P st' rs r ∧ st'.B = B'
  | _, _ => False

theorem specB_of {P : Program} {f : FuncId} {fn : Func} {c : Code} {args : List MV} {r : Res} {B B' : List (Option (List Ct))} {nt : Nat} {rs : List ResultVar} (hf : P.funcs[f]? = some fn) (hb : fn.body = some c) (hnt : fn.ntmps = nt) (hrs : fn.results.toList = rs) (hname : (fn.name == "runtime.NumGoroutine") = false) (hna : args.length ≤ nt) (hBB : B'.length = B.length)
    (h : PW P nt c ⟨argsV 0 args, B⟩ (postBP P rs r B')) : SpecB P f args B r B' := by
  subst hnt; subst hrs
  refine ⟨fun as w => ?_, fun γ ω w vs hl hv hlt hlab hB => ?_⟩
  · have h1 : fn.name ≠ "runtime.NumGoroutine" := by simpa using hname
    simp [callFunc, hf, h1, hb, mark]
  have hR : Rel γ ω w fn.ntmps ⟨argsV 0 args, B⟩ { tmps := vs.toArray ++ Array.replicate (fn.ntmps - vs.toArray.size) undef, defers := [] } := by
    refine ⟨by simp; omega, rfl, hlt, hB, fun s => ?_⟩
    simp only
    rw [lk_argsV]
    simp only [Nat.zero_le, if_true, Nat.sub_zero]
    cases hm : args[s]? with
    | none => trivial
    | some m =>
      have hs : s < vs.length := by rw [hl]; exact (List.getElem?_eq_some_iff.1 hm).1
      have e : (vs.toArray ++ Array.replicate (fn.ntmps - vs.toArray.size) undef).getD s undef = vs[s] := by
        rw [Array.getD_eq_getD_getElem?, Array.getElem?_append_left (by simpa using hs)]
        simp [hs]
      rw [e]
      exact hv s m vs[s] hm (List.getElem?_eq_getElem hs)
  refine calls_of_wp hf hb (h γ ω w _ _ hR (fun e γ' ω' w' st' a' h1 h2 h3 => ?_))
  have hpost : resP P st' fn.results.toList r ∧ st'.B = B' := by cases e <;> first | exact h3 | exact h3.elim
  obtain ⟨hpost, hstB⟩ := hpost
  obtain ⟨us, g1, g2, g3⟩ := resP_ok h2 hpost
  obtain ⟨v, hrun, hv1, hv2⟩ := results_run g2
  have hγ : γ' = γ := by
    have e1 : γ'.length = γ.length := by rw [← h2.boxes.len, hstB, hBB, hB.len]
    refine List.ext_getElem? (fun k => ?_)
    cases hk : γ[k]? with
    | some b => exact h1.pre k b hk
    | none =>
      have : γ.length ≤ k := List.getElem?_eq_none_iff.1 hk
      exact List.getElem?_eq_none_iff.2 (by omega)
  subst hγ
  let ωr : Own := fun b => match ω' b with | none => none | some (.slot _) => some .res | some .res => some .outer | some o => some o
  have hn : ∀ b, ω' b = none → ωr b = none := fun b hb' => by simp only [ωr, hb']
  have hbx : ∀ b o, isBoxO o = true → ω' b = some o → ωr b = some o := by
    intro b o ho hb'
    simp only [ωr, hb']
    cases o <;> simp [isBoxO] at ho <;> rfl
  have hsl : ∀ b s, ω' b = some (.slot s) → ωr b = some .res := fun b s hb' => by simp only [ωr, hb']
  have hitem : ∀ (x : Option Nat × MV) (u : Value), resU γ' ω' w' st' a'.tmps x u → ResI γ' ωr w' x u := by
    rintro ⟨x1, x2⟩ u (⟨s, hs, rfl⟩ | ⟨rfl, hr⟩)
    rotate_left
    · exact hr.relabel hn
    have hslot := h2.slots s
    cases hc : lk st'.v s with
    | sh m' =>
      rw [hc] at hs hslot
      cases x1 with
      | none =>
        have hr : Rep γ' ω' w' x2 (a'.tmps.getD s undef) := by
          rcases hs with hs | hs
          · subst hs; exact hslot
          · subst hs; exact Rep.top hslot
        exact hr.relabel hn
      | some sz =>
        cases m' with
        | nil =>
          cases x2 with
          | list es =>
            cases es with
            | nil =>
              have hv : a'.tmps.getD s undef = .slice none 0 0 := by
                have : Rep γ' ω' w' .nil (a'.tmps.getD s undef) := hslot
                generalize a'.tmps.getD s undef = v at this ⊢
                cases this; rfl
              rw [hv]
              exact OwnRep.list sz [] _ 0 [] (World.ownsRow_nil w' 0 0 sz) ⟨by simp, by simp, by simp, by simp⟩ (fun b hb => by simp [Value.ownBlock] at hb)
            | cons => simp [resI] at hs
          | _ => simp [resI] at hs
        | _ => cases x2 <;> simp [resI] at hs
    | own sz' m' =>
      rw [hc] at hs hslot
      cases x1 with
      | none => simp [resI] at hs
      | some sz =>
        have h1 : sz' = sz ∧ m' = x2 := hs
        obtain ⟨e1, e2⟩ := h1
        subst e1; subst e2
        exact OwnRep.relab hn (fun b hb => hsl b s hb) hslot
    | _ => rw [hc] at hs; cases x1 <;> simp [resI] at hs
  have key : a'.defers = [] ∧ ∃ v, (results fn a'.tmps).run P w' = .ok v w' ∧ ∃ v' ω', Ending.returned v = .returned v' ∧ Chg (fun o => isBoxO o = true) γ' ω w γ' ω' w' ∧ (∀ b, w'.heap.size ≤ b → ω' b = none) ∧
      (∀ b o, ω' b = some o → isBoxO o = true ∨ o = .outer ∨ o = .res) ∧ Boxes γ' ω' w' B' ∧ ResRep γ' ω' w' r v' := by
    refine ⟨h2.defers, v, hrun, v, ωr, rfl, ⟨h1.os, h1.tape, h1.output, h1.size, fun _ _ h => h, fun b hb' h0 => ?_, fun b o hb' h0 hno => ?_⟩, fun b hb' => hn b (h2.lt b hb'), fun b o hb' => ?_, ?_, ?_⟩
    · obtain ⟨e1, e2⟩ := h1.none b hb' h0
      exact ⟨e1, hn b e2⟩
    · have ho : o = .outer := by
        rcases hlab b o h0 with h | h
        · exact absurd h hno
        · exact h
      subst ho
      obtain ⟨e1, e2⟩ := h1.keep b _ hb' h0 (fun h => h rfl)
      exact ⟨e1, by simp only [ωr, e2]⟩
    · simp only [ωr] at hb'
      split at hb'
      · exact absurd hb' (by simp)
      · injection hb' with hb'; exact .inr (.inr hb'.symm)
      · injection hb' with hb'; exact .inr (.inl hb'.symm)
      · rename_i o' hn1 hn2 hw
        injection hb' with hb'; subst hb'
        cases o' with
        | box k => exact .inl rfl
        | cell k i => exact .inl rfl
        | outer => exact .inr (.inl rfl)
        | slot s => exact absurd rfl (hn1 s)
        | res => exact absurd rfl hn2
    · rw [← hstB]; exact h2.boxes.relab hn hbx
    · match r, us, g1 with
      | [x], [u], _ =>
        show ResI γ' ωr w' x v
        rw [hv1 u rfl]
        exact hitem x u (g3 0 x u rfl rfl)
      | [], [], _ => exact ⟨[], hv2 (by simp), rfl, by simp⟩
      | x :: y :: q, us, g1 =>
        refine ⟨us, hv2 (by rw [g1]; simp), g1, fun i z u hz hu => hitem z u (g3 i z u hz hu)⟩
  cases e with
  | normal => exact key
  | ret => exact key
  | exit id => exact h3.elim

end Go.Pv

end M25
section M26
/- A library of this session: short roads. -/
set_option linter.unusedVariables false
set_option linter.unusedSimpArgs false
namespace Go.Pv
section
variable {P : Program} {nt : Nat} {st : St} {Q : PX → St → Prop}

theorem PW.reg (fz : List Nat) {id : Nat} {ops : Array Oper} (h : runP P nt fz ops ops.toList st (fun st' => Q .normal st')) : PW P nt (.region id ops false) st Q := by
  intro γ ω w a R hr hk
  refine wp_region ?_
  have := run_ok ops.toList 0 (by simp) hr h R (fun γ' ω' w' st' a' h1 h2 h3 => hk .normal _ _ _ _ _ h1 h2 h3)
  rw [List.range_eq_range']
  simpa using this

theorem PW.sreg (fz : List Nat) {id : Nat} {ops : Array Oper} {y : Code} (h : ∀ K : St → Prop, (∀ st', PW P nt y st' Q → K st') → runP P nt fz ops ops.toList st K) : PW P nt (.seq (.region id ops false) y) st Q :=
  PW.seq (fun K hK => PW.reg fz (h K hK))

theorem PW.dreg (fz : List Nat) {id : Nat} {ops : Array Oper} (hm : P.follows .mixedOrders = true) (hreg : regOk ops = true) (h : Dr P nt fz ops [] [] st (fun st' => Q .normal st')) : PW P nt (.region id ops true) st Q := by
  intro γ ω w a R hr hk
  refine wp_region_any hm ?_
  have hc : Chg (fun _ => False) γ ω w γ ω { w with drawn := w.drawn + 1 } := ⟨rfl, rfl, rfl, Nat.le_refl _, fun _ _ h => h, fun _ _ h => ⟨rfl, h⟩, fun _ _ _ h _ => ⟨rfl, h⟩⟩
  have hr' : Rel γ ω { w with drawn := w.drawn + 1 } nt st a := hr.grow hc hr.lt
  refine h γ ω _ a [] _ ops.size R ⟨by simp, fun i hi => ?_⟩ (by simp) trivial (by simp) ?_ (hr'.ext rfl (fun s => by simp only [lk_killL]; simp [dss, memN])) (fun γ' ω' w' st' a' h1 h2 h3 => ?_)
  · simp [hi]
  · have hs : (Array.replicate ops.size false).size = ops.size := by simp
    unfold un
    rw [hs]
    exact Nat.le_trans (List.length_filter_le _ _) (by simp)
  · exact hk .normal _ _ _ _ _ ((hc.mono (fun _ h => h.elim)).trans h1) h2 h3

theorem PW.sdraw (fz : List Nat) {id : Nat} {ops : Array Oper} {y : Code} (hm : P.follows .mixedOrders = true) (hreg : regOk ops = true) (h : ∀ K : St → Prop, (∀ st', PW P nt y st' Q → K st') → Dr P nt fz ops [] [] st K) : PW P nt (.seq (.region id ops true) y) st Q :=
  PW.seq (fun K hK => PW.dreg fz hm hreg (h K hK))

theorem PW.condD {t : Nat} {x y : Code} {p : Prop} [Decidable p] (hb : lk st.v t = .sh (.bool (decide p))) (ht : p → PW P nt x st Q) (hf : ¬ p → PW P nt y st Q) : PW P nt (.cond (.tmp t) x y) st Q :=
  PW.cond hb (fun e => ht (of_decide_eq_true e)) (fun e => hf (of_decide_eq_false e))

theorem PW.condN {t : Nat} {x y : Code} {p : Prop} [Decidable p] (hb : lk st.v t = .sh (.bool (!decide p))) (ht : ¬ p → PW P nt x st Q) (hf : p → PW P nt y st Q) : PW P nt (.cond (.tmp t) x y) st Q :=
  PW.cond hb (fun e => ht (by simpa using e)) (fun e => hf (by simpa using e))

theorem PW.condT {t : Nat} {x y : Code} (hb : lk st.v t = .sh (.bool true)) (ht : PW P nt x st Q) : PW P nt (.cond (.tmp t) x y) st Q :=
  PW.cond hb (fun _ => ht) (fun e => absurd e (by simp))

theorem PW.condF {t : Nat} {x y : Code} (hb : lk st.v t = .sh (.bool false)) (hf : PW P nt y st Q) : PW P nt (.cond (.tmp t) x y) st Q :=
  PW.cond hb (fun e => absurd e (by simp)) (fun _ => hf)

/-- A contract may be used where the state says more. -/
theorem PW.to {c : Code} {st' : St} (h : PW P nt c st Q) (e : st' = st) : PW P nt c st' Q := by rw [e]; exact h

end
theorem runP_nil (P : Program) (nt : Nat) (fz : List Nat) (ops : Array Oper) (st : St) (K : St → Prop) : runP P nt fz ops [] st K = K st := rfl
theorem runP_cons (P : Program) (nt : Nat) (fz : List Nat) (ops : Array Oper) (o : Oper) (r : List Oper) (st : St) (K : St → Prop) : runP P nt fz ops (o :: r) st K = gdP P nt fz ops o st (fun st' => runP P nt fz ops r st' K) := rfl
theorem gdP_eq (P : Program) (nt : Nat) (fz : List Nat) (ops : Array Oper) (o : Oper) (st : St) (K : St → Prop) : gdP P nt fz ops o st K = (
  match o.guard with
  | none => opP P nt fz o st K
  | some (j, want) => match (ops[j]?).bind (·.dst) with
    | some d => match lk st.v d with
      | .sh (.bool b) => if b = want then opP P nt fz o st K else dOk o.dst nt ∧ K (putO st o.dst (.sh (.tup [])))
      | .sh (.tup []) => dOk o.dst nt ∧ K (putO st o.dst (.sh (.tup [])))
      | _ => False
    | none => False) := by unfold gdP; rfl
theorem opP_eq (P : Program) (nt : Nat) (fz : List Nat) (o : Oper) (st : St) (K : St → Prop) : opP P nt fz o st K = (
  dOk o.dst nt ∧ (match o.op with
    | .assign x => match o.dst with
      | some d => asgP P st o.type d x K
      | none => False
    | .call c => match c.callee with
      | .value f => calP P st o.dst f c.args.toList K
      | .builtin .append => match o.dst with
        | some d => appP P st d c K
        | none => False
      | _ => pureP P st (.call c) (fun ct => K (putO st o.dst ct))
    | .makeSlice T l c => match o.dst with
      | some d => mkP P st d T l c K
      | none => False
    | .buildSlice T len parts => match o.dst with
      | some d => bsP P st d T len parts.toList K
      | none => False
    | .build T parts => bldP P st o.dst T parts.toList K
    | .box T x => boxP (match o.dst with | some d => memN fz d | none => false) st o.dst x K
    | .alloc T => aloP P (match o.dst with | some d => memN fz d | none => false) st o.dst T K
    | .store T ad x => o.dst = none ∧ stoP P st T ad x K
    | .convert s T x => (match o.dst, opv st x, kdOf P T with
      | some d, some (.str _), .slice _ => strB P st d s T x K
      | _, _, _ => pureP P st (.convert s T x) (fun ct => K (putO st o.dst ct)))
    | op => pureP P st op (fun ct => K (putO st o.dst ct)))) := by unfold opP; rfl
theorem pureP_eq (P : Program) (st : St) (o : Op) (K : Ct → Prop) : pureP P st o K = (
  match o with
  | .move x => movP st x K
  | .binOp op T x y _ => binE P st op T x y K
  | .pick c x y => match opv st c with
    | some (.bool b) => if b = true then (match shv st x with
        | some m => K (.sh m)
        | none => False)
      else (match shv st y with
        | some m => K (.sh m)
        | none => False)
    | _ => False
  | .unOp op _ x => match opv st x with
    | some a => unP op a (fun m => K (.sh m))
    | none => False
  | .convert s d x => match opv st x with
    | some a => convP P s d a (fun m => K (.sh m))
    | none => False
  | .extract x i => extP st x i K
  | .load T x => loadP P st T x K
  | .fieldAddr T x f => faP P st T x f K
  | .field T x f => fieldP P st T x f (fun m => K (.sh m))
  | .indexAddr T x i => iaP P st T x i K
  | .index T x i => idxP P st T x i (fun m => K (.sh m))
  | .slice T x lo hi none => sliceP P st T x lo hi (fun m => K (.sh m))
  | .nilCheck x => ncP st x K
  | .makeFunc (.func f) fs cs => fs.size = 0 ∧ (match shvs st cs.toList with
    | some ms => K (.sh (.fn f ms))
    | none => False)
  | .call c => match c.callee with
    | .builtin .len => match c.args.toList with
      | [x] => match opv st x with
        | some m => lenP P (c.argTypes.getD 0 0) m (fun m => K (.sh m)) ∧ c.argTypes.size ≠ 0
        | none => False
      | _ => False
    | .builtin .min => match opvs st c.args.toList with
      | some ms => mmP false ms (fun m => K (.sh m))
      | none => False
    | .builtin .max => match opvs st c.args.toList with
      | some ms => mmP true ms (fun m => K (.sh m))
      | none => False
    | _ => False
  | _ => False) := by unfold pureP; rfl

end Go.Pv

end M26
section M27
/- A library of this session: one equation for each kind of operation. -/
set_option linter.unusedVariables false
set_option linter.unusedSimpArgs false
namespace Go.Pv
section
variable (P : Program) (nt : Nat) (fz : List Nat) (st : St) (K : St → Prop) (d : Nat) (ty : TypeId) (pos : String) (after : Array Edge) (g : Option (Nat × Bool)) (od : Option Tmp)

theorem gd_none (ops : Array Oper) (op : Op) : gdP P nt fz ops ⟨od, op, ty, pos, after, none⟩ st K = opP P nt fz ⟨od, op, ty, pos, after, none⟩ st K := rfl

/-- What the guard says. -/
def gOf (st : St) : Option (Option Tmp) → Option Bool
  | some (some d) => match lk st.v d with
    | .sh (.bool b) => some b
    | _ => none
  | _ => none

/-- The guard's own operation was passed over. -/
def gU (st : St) : Option (Option Tmp) → Bool
  | some (some d) => match lk st.v d with
    | .sh (.tup []) => true
    | _ => false
  | _ => false

/-- A guarded operation; gs: the slots of the region's operations. -/
def gdQ (P : Program) (nt : Nat) (fz : List Nat) (gs : List (Option Tmp)) (o : Oper) (st : St) (K : St → Prop) : Prop :=
  match o.guard with
  | none => opP P nt fz o st K
  | some (j, want) => match gOf st gs[j]? with
    | some b => if b = want then opP P nt fz o st K else dOk o.dst nt ∧ K (putO st o.dst (.sh (.tup [])))
    | none => gU st gs[j]? = true ∧ dOk o.dst nt ∧ K (putO st o.dst (.sh (.tup [])))

theorem gdP_Q {P : Program} {nt : Nat} {fz : List Nat} {ops : Array Oper} {o : Oper} {st : St} {K : St → Prop} (h : gdQ P nt fz (ops.toList.map (·.dst)) o st K) : gdP P nt fz ops o st K := by
  unfold gdQ at h
  unfold gdP
  split at h
  · rename_i hg; first | (simp only [hg]; exact h) | exact h
  · rename_i j want hg
    split at h
    · rename_i b hb
      rw [List.getElem?_map, Array.getElem?_toList] at hb
      cases ho : ops[j]? with
      | none => rw [ho] at hb; simp [gOf] at hb
      | some o' =>
        rw [ho] at hb
        cases hd : o'.dst with
        | none => simp [hd, gOf] at hb
        | some t =>
          simp only [Option.map_some, hd, gOf] at hb
          simp only [hg, ho, Option.bind_some, hd]
          split at hb
          · rename_i b' hl
            injection hb with hb; subst hb
            rw [hl]; exact h
          · exact absurd hb (by simp)
    · obtain ⟨hu, h⟩ := h
      rw [List.getElem?_map, Array.getElem?_toList] at hu
      cases ho : ops[j]? with
      | none => rw [ho] at hu; simp [gU] at hu
      | some o' =>
        rw [ho] at hu
        cases hd : o'.dst with
        | none => simp [hd, gU] at hu
        | some t =>
          simp only [Option.map_some, hd, gU] at hu
          simp only [hg, ho, Option.bind_some, hd]
          split at hu
          · rename_i hl; rw [hl]; exact h
          · exact absurd hu (by simp)

def runQ (P : Program) (nt : Nat) (fz : List Nat) (gs : List (Option Tmp)) : List Oper → St → (St → Prop) → Prop
  | [], st, K => K st
  | o :: r, st, K => gdQ P nt fz gs o st (fun st' => runQ P nt fz gs r st' K)

theorem runQ_ok {P : Program} {nt : Nat} {fz : List Nat} {ops : Array Oper} : ∀ (l : List Oper) (i : Nat), ops.toList.drop i = l → ∀ {γ : List Nat} {ω : Own} {w : World} {st : St} {a : Act}, Rel γ ω w nt st a → ∀ {K : St → Prop}, runQ P nt fz (ops.toList.map (·.dst)) l st K → ∀ (Q : Exit → Act → World → Prop),
    (∀ γ' ω' w' st' a', Chg NotOuter γ ω w γ' ω' w' → Rel γ' ω' w' nt st' a' → K st' → Q .normal a' w') → wpOps P ops Q (List.range' i l.length) a w
  | [], i, hl, γ, ω, w, st, a, h, K, hx, Q, hq => by
    simp only [List.length_nil, List.range'_zero, wpOps]
    exact hq _ _ _ _ _ (Chg.refl _ _ _ _) h hx
  | o :: r, i, hl, γ, ω, w, st, a, h, K, hx, Q, hq => by
    have ho : ops[i]? = some o := by
      have := congrArg (fun l => l[0]?) hl
      simpa [List.getElem?_drop] using this
    have hr : ops.toList.drop (i + 1) = r := by
      rw [← List.drop_drop, hl]; rfl
    simp only [List.length_cons, List.range'_succ]
    refine step_ok ho h (gdP_Q hx) Q _ (fun γ' ω' w' st' a' h1 h2 h3 => ?_)
    exact runQ_ok r (i + 1) hr h2 h3 Q (fun γ2 ω2 w2 st2 a2 g1 g2 g3 => hq _ _ _ _ _ (h1.trans g1) g2 g3)

theorem PW.regQ {P : Program} {nt : Nat} {st : St} {Q : PX → St → Prop} (fz : List Nat) {id : Nat} {ops : Array Oper} (h : runQ P nt fz (ops.toList.map (·.dst)) ops.toList st (fun st' => Q .normal st')) : PW P nt (.region id ops false) st Q := by
  intro γ ω w a R hr hk
  refine wp_region ?_
  have := runQ_ok ops.toList 0 (by simp) hr h R (fun γ' ω' w' st' a' h1 h2 h3 => hk .normal _ _ _ _ _ h1 h2 h3)
  rw [List.range_eq_range']
  simpa using this

theorem PW.sregQ {P : Program} {nt : Nat} {st : St} {Q : PX → St → Prop} (fz : List Nat) {id : Nat} {ops : Array Oper} {y : Code} (h : ∀ K : St → Prop, (∀ st', PW P nt y st' Q → K st') → runQ P nt fz (ops.toList.map (·.dst)) ops.toList st K) : PW P nt (.seq (.region id ops false) y) st Q :=
  PW.seq (fun K hK => PW.regQ fz (h K hK))

theorem runQ_nil (P : Program) (nt : Nat) (fz : List Nat) (gs : List (Option Tmp)) (st : St) (K : St → Prop) : runQ P nt fz gs [] st K = K st := rfl
theorem runQ_none (P : Program) (nt : Nat) (fz : List Nat) (gs : List (Option Tmp)) (od : Option Tmp) (op : Op) (ty : TypeId) (pos : String) (after : Array Edge) (r : List Oper) (st : St) (K : St → Prop) :
    runQ P nt fz gs (⟨od, op, ty, pos, after, none⟩ :: r) st K = opP P nt fz ⟨od, op, ty, "", #[], none⟩ st (fun st' => runQ P nt fz gs r st' K) := rfl
theorem runQ_some (P : Program) (nt : Nat) (fz : List Nat) (gs : List (Option Tmp)) (od : Option Tmp) (op : Op) (ty : TypeId) (pos : String) (after : Array Edge) (j : Nat) (want : Bool) (r : List Oper) (st : St) (K : St → Prop) :
    runQ P nt fz gs (⟨od, op, ty, pos, after, some (j, want)⟩ :: r) st K = (match gOf st gs[j]? with
    | some b => if b = want then opP P nt fz ⟨od, op, ty, "", #[], none⟩ st (fun st' => runQ P nt fz gs r st' K) else dOk od nt ∧ runQ P nt fz gs r (putO st od (.sh (.tup []))) K
    | none => gU st gs[j]? = true ∧ dOk od nt ∧ runQ P nt fz gs r (putO st od (.sh (.tup []))) K) := rfl

/-- One operation of a region; what follows stays out of sight. -/
theorem runQ_step {P : Program} {nt : Nat} {fz : List Nat} {gs : List (Option Tmp)} {od : Option Tmp} {op : Op} {ty : TypeId} {pos : String} {after : Array Edge} {r : List Oper} {st : St} {K : St → Prop}
    (h : ∀ K' : St → Prop, (∀ st', runQ P nt fz gs r st' K → K' st') → opP P nt fz ⟨od, op, ty, "", #[], none⟩ st K') : runQ P nt fz gs (⟨od, op, ty, pos, after, none⟩ :: r) st K := h (fun st' => runQ P nt fz gs r st' K) (fun _ h => h)

theorem runQ_end {P : Program} {nt : Nat} {fz : List Nat} {gs : List (Option Tmp)} {st : St} {K : St → Prop} (h : K st) : runQ P nt fz gs [] st K := h

theorem runQ_guard {P : Program} {nt : Nat} {fz : List Nat} {gs : List (Option Tmp)} {od : Option Tmp} {op : Op} {ty : TypeId} {pos : String} {after : Array Edge} {j : Nat} {want b : Bool} {r : List Oper} {st : St} {K : St → Prop} (hb : gOf st gs[j]? = some b)
    (ht : b = want → ∀ K' : St → Prop, (∀ st', runQ P nt fz gs r st' K → K' st') → opP P nt fz ⟨od, op, ty, "", #[], none⟩ st K') (hf : b ≠ want → dOk od nt ∧ runQ P nt fz gs r (putO st od (.sh (.tup []))) K) : runQ P nt fz gs (⟨od, op, ty, pos, after, some (j, want)⟩ :: r) st K := by
  rw [runQ_some, hb]
  simp only
  split
  · rename_i e; exact ht e (fun st' => runQ P nt fz gs r st' K) (fun _ h => h)
  · rename_i e; exact hf e

theorem runQ_gU {P : Program} {nt : Nat} {fz : List Nat} {gs : List (Option Tmp)} {od : Option Tmp} {op : Op} {ty : TypeId} {pos : String} {after : Array Edge} {j : Nat} {want : Bool} {r : List Oper} {st : St} {K : St → Prop} (hb : gOf st gs[j]? = none) (hu : gU st gs[j]? = true)
    (hf : dOk od nt ∧ runQ P nt fz gs r (putO st od (.sh (.tup []))) K) : runQ P nt fz gs (⟨od, op, ty, pos, after, some (j, want)⟩ :: r) st K := by
  rw [runQ_some, hb]
  exact ⟨hu, hf⟩

theorem runQ_gT {P : Program} {nt : Nat} {fz : List Nat} {gs : List (Option Tmp)} {od : Option Tmp} {op : Op} {ty : TypeId} {pos : String} {after : Array Edge} {j : Nat} {p : Prop} [Decidable p] {r : List Oper} {st : St} {K : St → Prop} (hb : gOf st gs[j]? = some (decide p))
    (ht : p → ∀ K' : St → Prop, (∀ st', runQ P nt fz gs r st' K → K' st') → opP P nt fz ⟨od, op, ty, "", #[], none⟩ st K') (hf : ¬ p → dOk od nt ∧ runQ P nt fz gs r (putO st od (.sh (.tup []))) K) : runQ P nt fz gs (⟨od, op, ty, pos, after, some (j, true)⟩ :: r) st K :=
  runQ_guard hb (fun e => ht (of_decide_eq_true e)) (fun e => hf (fun hp => e (decide_eq_true hp)))

theorem runQ_gF {P : Program} {nt : Nat} {fz : List Nat} {gs : List (Option Tmp)} {od : Option Tmp} {op : Op} {ty : TypeId} {pos : String} {after : Array Edge} {j : Nat} {p : Prop} [Decidable p] {r : List Oper} {st : St} {K : St → Prop} (hb : gOf st gs[j]? = some (decide p))
    (ht : ¬ p → ∀ K' : St → Prop, (∀ st', runQ P nt fz gs r st' K → K' st') → opP P nt fz ⟨od, op, ty, "", #[], none⟩ st K') (hf : p → dOk od nt ∧ runQ P nt fz gs r (putO st od (.sh (.tup []))) K) : runQ P nt fz gs (⟨od, op, ty, pos, after, some (j, false)⟩ :: r) st K :=
  runQ_guard hb (fun e => ht (of_decide_eq_false e)) (fun e => hf (by
    rcases Decidable.em p with h | h
    · exact h
    · exact absurd (decide_eq_false h) e))

theorem op_move (x : Operand) : opP P nt fz ⟨some d, .move x, ty, pos, after, g⟩ st K = (d < nt ∧ movP st x (fun ct => K (st.put d ct))) := rfl
theorem op_assign (x : Operand) : opP P nt fz ⟨some d, .assign x, ty, pos, after, g⟩ st K = (d < nt ∧ asgP P st ty d x K) := rfl
theorem op_bin (op : BinOp) (T T2 : TypeId) (x y : Operand) : opP P nt fz ⟨some d, .binOp op T x y T2, ty, pos, after, g⟩ st K = (d < nt ∧ binE P st op T x y (fun ct => K (st.put d ct))) := rfl
theorem op_pick (c x y : Operand) : opP P nt fz ⟨some d, .pick c x y, ty, pos, after, g⟩ st K = (d < nt ∧ (match opv st c with
    | some (.bool b) => if b = true then (match shv st x with
        | some m => K (st.put d (.sh m))
        | none => False)
      else (match shv st y with
        | some m => K (st.put d (.sh m))
        | none => False)
    | _ => False)) := rfl
theorem op_un (op : UnOp) (T : TypeId) (x : Operand) : opP P nt fz ⟨some d, .unOp op T x, ty, pos, after, g⟩ st K = (d < nt ∧ (match opv st x with
    | some a => unP op a (fun m => K (st.put d (.sh m)))
    | none => False)) := rfl
theorem op_conv (s T : TypeId) (x : Operand) : opP P nt fz ⟨some d, .convert s T x, ty, pos, after, g⟩ st K = (d < nt ∧ (match opv st x, kdOf P T with
    | some (.str b), .slice e => kdOf P e = .int .u8 ∧ kdOf P s = .str ∧ K (st.put d (.sh (.list (byteRow b))))
    | some a, _ => convP P s T a (fun m => K (st.put d (.sh m)))
    | none, _ => False)) := by
  show (_ ∧ (match some d, opv st x, kdOf P T with
      | some d, some (.str _), .slice _ => strB P st d s T x K
      | _, _, _ => (match opv st x with
    | some a => convP P s T a (fun m => K (st.put d (.sh m)))
    | none => False))) = _
  unfold strB
  cases h : opv st x with
  | none => cases h2 : kdOf P T <;> simp [dOk]
  | some m => cases m <;> cases h2 : kdOf P T <;> simp [dOk]
theorem op_extract (x : Operand) (i : Nat) : opP P nt fz ⟨some d, .extract x i, ty, pos, after, g⟩ st K = (d < nt ∧ extP st x i (fun ct => K (st.put d ct))) := rfl
theorem op_load (T : TypeId) (x : Operand) : opP P nt fz ⟨some d, .load T x, ty, pos, after, g⟩ st K = (d < nt ∧ loadP P st T x (fun ct => K (st.put d ct))) := rfl
theorem op_fa (T : TypeId) (x : Operand) (f : Nat) : opP P nt fz ⟨some d, .fieldAddr T x f, ty, pos, after, g⟩ st K = (d < nt ∧ faP P st T x f (fun ct => K (st.put d ct))) := rfl
theorem op_field (T : TypeId) (x : Operand) (f : Nat) : opP P nt fz ⟨some d, .field T x f, ty, pos, after, g⟩ st K = (d < nt ∧ fieldP P st T x f (fun m => K (st.put d (.sh m)))) := rfl
theorem op_ia (T : TypeId) (x i : Operand) : opP P nt fz ⟨some d, .indexAddr T x i, ty, pos, after, g⟩ st K = (d < nt ∧ iaP P st T x i (fun ct => K (st.put d ct))) := rfl
theorem op_idx (T : TypeId) (x i : Operand) : opP P nt fz ⟨some d, .index T x i, ty, pos, after, g⟩ st K = (d < nt ∧ idxP P st T x i (fun m => K (st.put d (.sh m)))) := rfl
theorem op_slice (T : TypeId) (x : Operand) (lo hi : Option Operand) : opP P nt fz ⟨some d, .slice T x lo hi none, ty, pos, after, g⟩ st K = (d < nt ∧ sliceP P st T x lo hi (fun m => K (st.put d (.sh m)))) := rfl
theorem op_nc (x : Operand) : opP P nt fz ⟨some d, .nilCheck x, ty, pos, after, g⟩ st K = (d < nt ∧ ncP st x (fun ct => K (st.put d ct))) := rfl
theorem op_func (f : FuncId) (cs : Array Operand) : opP P nt fz ⟨some d, .makeFunc (.func f) #[] cs, ty, pos, after, g⟩ st K = (d < nt ∧ (match shvs st cs.toList with
    | some ms => K (st.put d (.sh (.fn f ms)))
    | none => False)) := by
  show (_ ∧ ((#[] : Array Operand).size = 0 ∧ _)) = _
  simp only [List.size_toArray, List.length_nil, true_and]; rfl
theorem op_call (f : Operand) (args : Array Operand) (tys : Array TypeId) : opP P nt fz ⟨od, .call ⟨.value f, args, tys⟩, ty, pos, after, g⟩ st K = (dOk od nt ∧ calP P st od f args.toList K) := rfl
theorem op_append (args : Array Operand) (tys : Array TypeId) : opP P nt fz ⟨some d, .call ⟨.builtin .append, args, tys⟩, ty, pos, after, g⟩ st K = (d < nt ∧ appP P st d ⟨.builtin .append, args, tys⟩ K) := rfl
theorem op_len (x : Operand) (T : TypeId) : opP P nt fz ⟨some d, .call ⟨.builtin .len, #[x], #[T]⟩, ty, pos, after, g⟩ st K = (d < nt ∧ (match opv st x with
    | some m => lenP P T m (fun m => K (st.put d (.sh m)))
    | none => False)) := by
  show (_ ∧ (match opv st x with
    | some m => lenP P T m (fun m => K (st.put d (.sh m))) ∧ (#[T] : Array TypeId).size ≠ 0
    | none => False)) = _
  cases opv st x <;> simp; exact fun _ => Iff.rfl
theorem op_min (args : Array Operand) (tys : Array TypeId) : opP P nt fz ⟨some d, .call ⟨.builtin .min, args, tys⟩, ty, pos, after, g⟩ st K = (d < nt ∧ (match opvs st args.toList with
    | some ms => mmP false ms (fun m => K (st.put d (.sh m)))
    | none => False)) := rfl
theorem op_max (args : Array Operand) (tys : Array TypeId) : opP P nt fz ⟨some d, .call ⟨.builtin .max, args, tys⟩, ty, pos, after, g⟩ st K = (d < nt ∧ (match opvs st args.toList with
    | some ms => mmP true ms (fun m => K (st.put d (.sh m)))
    | none => False)) := rfl
theorem op_make (T : TypeId) (l c : Operand) : opP P nt fz ⟨some d, .makeSlice T l c, ty, pos, after, g⟩ st K = (d < nt ∧ mkP P st d T l c K) := rfl
theorem op_bs (T : TypeId) (len : Nat) (parts : Array (Nat × Operand)) : opP P nt fz ⟨some d, .buildSlice T len parts, ty, pos, after, g⟩ st K = (d < nt ∧ bsP P st d T len parts.toList K) := rfl
theorem op_bld (T : TypeId) (parts : Array (Nat × Operand)) : opP P nt fz ⟨some d, .build T parts, ty, pos, after, g⟩ st K = (d < nt ∧ bldP P st (some d) T parts.toList K) := rfl
theorem op_box (T : TypeId) (x : Operand) : opP P nt fz ⟨some d, .box T x, ty, pos, after, g⟩ st K = (d < nt ∧ boxP (memN fz d) st (some d) x K) := rfl
theorem op_alloc (T : TypeId) : opP P nt fz ⟨some d, .alloc T, ty, pos, after, g⟩ st K = (d < nt ∧ aloP P (memN fz d) st (some d) T K) := rfl
theorem op_store (T : TypeId) (ad x : Operand) : opP P nt fz ⟨none, .store T ad x, ty, pos, after, g⟩ st K = stoP P st T ad x K := by
  show (True ∧ (none : Option Tmp) = none ∧ stoP P st T ad x K) = _
  simp

/-! #### Arithmetic -/
variable (k : IntKind) (a b : Int) (T : TypeId) (H : MV → Prop)
theorem bin_add : binP P .add T (.int k a) (.int k b) H = H (.int k (k.wrap (a + b))) := by simp [binP, binInt]
theorem bin_sub : binP P .sub T (.int k a) (.int k b) H = H (.int k (k.wrap (a - b))) := by simp [binP, binInt]
theorem bin_mul : binP P .mul T (.int k a) (.int k b) H = H (.int k (k.wrap (a * b))) := by simp [binP, binInt]
theorem bin_quo : binP P .quo T (.int k a) (.int k b) H = (b ≠ 0 ∧ H (.int k (k.wrap (a.tdiv b)))) := by simp [binP, binInt]
theorem bin_rem : binP P .rem T (.int k a) (.int k b) H = (b ≠ 0 ∧ H (.int k (a.tmod b))) := by simp [binP, binInt]
theorem bin_and : binP P .and T (.int k a) (.int k b) H = H (.int k (bitI .and k a b)) := by simp [binP, binInt]
theorem bin_or : binP P .or T (.int k a) (.int k b) H = H (.int k (bitI .or k a b)) := by simp [binP, binInt]
theorem bin_xor : binP P .xor T (.int k a) (.int k b) H = H (.int k (bitI .xor k a b)) := by simp [binP, binInt]
theorem bin_eql : binP P .eql T (.int k a) (.int k b) H = H (.bool (decide (a = b))) := by simp [binP, binInt]
theorem bin_neq : binP P .neq T (.int k a) (.int k b) H = H (.bool (!decide (a = b))) := by simp only [binP, binInt, if_true]
theorem bin_lss : binP P .lss T (.int k a) (.int k b) H = H (.bool (decide (a < b))) := by simp [binP, binInt]
theorem bin_leq : binP P .leq T (.int k a) (.int k b) H = H (.bool (decide (a ≤ b))) := by simp [binP, binInt]
theorem bin_gtr : binP P .gtr T (.int k a) (.int k b) H = H (.bool (decide (b < a))) := by simp only [binP, binInt, if_true, gt_iff_lt]
theorem bin_geq : binP P .geq T (.int k a) (.int k b) H = H (.bool (decide (b ≤ a))) := by simp only [binP, binInt, if_true, ge_iff_le]
theorem bin_shl (k' : IntKind) : binP P .shl T (.int k a) (.int k' b) H = (0 ≤ b ∧ H (.int k (k.wrap (a * 2 ^ (min b.toNat k.bits))))) := rfl
theorem bin_shr (k' : IntKind) : binP P .shr T (.int k a) (.int k' b) H = (0 ≤ b ∧ H (.int k (a.fdiv (2 ^ (min b.toNat k.bits))))) := rfl
theorem bin_str (op : BinOp) (x y : ByteArray) : binP P op T (.str x) (.str y) H = binStr op x y H := rfl
theorem bin_beq (x y : Bool) : binP P .eql T (.bool x) (.bool y) H = (kdOf P T = .bool ∧ H (.bool (x == y))) := rfl
theorem bin_bne (x y : Bool) : binP P .neq T (.bool x) (.bool y) H = (kdOf P T = .bool ∧ H (.bool (!(x == y)))) := rfl

/-- Both sides are plain. -/
theorem binE_val (op : BinOp) (x y : Operand) (Kc : Ct → Prop) (m n : MV) (hy : isNilC y = false) (hx : opv st x = some m) (hy2 : opv st y = some n) (hm : (m matches .nilifc) = false) :
    binE P st op T x y Kc = binP P op T m n (fun m => Kc (.sh m)) := by
  unfold binE
  rw [hy, hx, hy2]
  simp only [Bool.false_eq_true, if_false]
  cases m <;> simp at hm ⊢

end
end Go.Pv

end M27
section M28
/- A library of this session: open orders, short roads. -/
set_option linter.unusedVariables false
set_option linter.unusedSimpArgs false
namespace Go.Pv
section
variable {P : Program} {nt : Nat} {st st' : St} {ops : Array Oper} {fz : List Nat}

/-- The other way round: what is not looked at may be known. -/
theorem Less.pureR {ds : List Nat} (h : Less ds st st') {op : Op} (hk : pureK op = true) (hx : ∀ x ∈ op.operands, ∀ t, x = .tmp t → memN ds t = false) {K : Ct → Prop} (hp : pureP P st' op K) : pureP P st op K := by
  cases op <;> simp only [pureK, Bool.false_eq_true] at hk <;> simp only [Op.operands] at hx
  case move x =>
    simp only [pureP, movP] at hp ⊢
    cases x with
    | tmp t => simp only at hp ⊢; rw [h.lkx (hx (.tmp t) (by simp) t rfl)] at hp; exact hp
    | _ => exact hp
  case pick c x y =>
    simp only [pureP] at hp ⊢
    rw [h.opv (hx c (by simp)), h.shv (hx x (by simp)), h.shv (hx y (by simp))] at hp; exact hp
  case load T x =>
    simp only [pureP, loadP] at hp ⊢
    split at hp
    · exact hp
    · rename_i ti hti
      cases x with
      | tmp t =>
        simp only [h.lkx (hx (.tmp t) (by simp) t rfl), h.B] at hp ⊢
        cases hc : Go.Pv.lk st.v t with
        | eadr p i off =>
          simp only [hc] at hp ⊢
          rcases h.at p with e | ⟨e1, e2⟩
          · rw [e] at hp; exact hp
          · rw [e2] at hp; exact hp.elim
        | sh m => cases m <;> simp only [hc] at hp ⊢ <;> exact hp
        | _ => simp only [hc] at hp ⊢ <;> exact hp
      | _ => exact hp
  case nilCheck x =>
    simp only [pureP, ncP] at hp ⊢
    cases x with
    | tmp t => simp only [h.lkx (hx (.tmp t) (by simp) t rfl)] at hp ⊢; exact hp
    | _ => exact hp
  case binOp op T x y ty =>
    simp only [pureP, binE] at hp ⊢
    have hn : nilness st' x = nilness st x := by
      cases x with
      | tmp t =>
        simp only [nilness, h.lkx (hx (.tmp t) (by simp) t rfl)]
        cases hc : Go.Pv.lk st.v t with
        | al p =>
          simp only
          rcases h.at p with e | ⟨e1, e2⟩
          · rw [e]
          · rw [e2]
            cases hq : st.at p <;> simp [hq, isShD] at e1 ⊢
        | sh m => cases m <;> first | rfl | (rename_i es; cases es <;> rfl)
        | own sz m => cases m <;> first | rfl | (rename_i es; cases es <;> rfl)
        | _ => rfl
      | _ => rfl
    rw [hn, h.opv (hx x (by simp)), h.opv (hx y (by simp))] at hp; exact hp
  case unOp op T x =>
    simp only [pureP] at hp ⊢
    rw [h.opv (hx x (by simp))] at hp; exact hp
  case convert s d x =>
    simp only [pureP] at hp ⊢
    rw [h.opv (hx x (by simp))] at hp; exact hp
  case makeFunc fn fs cs =>
    cases fn <;> simp only [pureP] at hp ⊢
    · rw [h.shvs (fun x hxx t e => hx x (by have := Array.mem_toList_iff.1 hxx; simp [this]) t e)] at hp; exact hp
    all_goals exact hp
  case slice T x lo hi mx =>
    cases mx with
    | some m => simp only [pureP] at hp
    | none =>
      simp only [pureP, sliceP] at hp ⊢
      have hlo : ∀ n, bndOf st' n lo = bndOf st n lo := fun n => h.bnd n (fun y hy => hx y (by subst hy; simp))
      have hhi : ∀ n, bndOf st' n hi = bndOf st n hi := fun n => h.bnd n (fun y hy => hx y (by subst hy; cases lo <;> simp))
      cases x with
      | tmp t =>
        simp only [hlo, hhi, h.opv (hx (.tmp t) (by simp)), h.lkx (hx (.tmp t) (by simp) t rfl)] at hp; exact hp
      | const v => simp only [hlo, hhi, h.opv (x := .const v) (fun t e => by cases e)] at hp; exact hp
      | func v => simp only [hlo, hhi, h.opv (x := .func v) (fun t e => by cases e)] at hp; exact hp
      | global v => simp only [hlo, hhi, h.opv (x := .global v) (fun t e => by cases e)] at hp; exact hp
  case fieldAddr T x f =>
    simp only [pureP, faP] at hp ⊢
    cases x with
    | tmp t => simp only [h.lkx (hx (.tmp t) (by simp) t rfl)] at hp ⊢; exact hp
    | _ => exact hp
  case field T x f =>
    simp only [pureP, fieldP] at hp ⊢
    rw [h.opv (hx x (by simp))] at hp; exact hp
  case indexAddr T x i =>
    simp only [pureP, iaP] at hp ⊢
    cases x with
    | tmp t =>
      simp only [h.opv (hx i (by simp)), h.lkx (hx (.tmp t) (by simp) t rfl)] at hp ⊢
      cases hc : Go.Pv.lk st.v t with
      | al p =>
        simp only [hc] at hp ⊢
        rcases h.at p with e | ⟨e1, e2⟩
        · rw [e] at hp; exact hp
        · rw [e2] at hp
          exfalso
          split at hp
          · split at hp
            · obtain ⟨_, _, hp⟩ := hp; exact hp
            · exact hp
          · exact hp
      | sh m => cases m <;> simp only [hc] at hp ⊢ <;> exact hp
      | own sz m => cases m <;> simp only [hc] at hp ⊢ <;> exact hp
      | _ => simp only [hc] at hp ⊢ <;> exact hp
    | _ => simp only [h.opv (hx i (by simp))] at hp ⊢; exact hp
  case index T x i =>
    simp only [pureP, idxP] at hp ⊢
    rw [h.opv (hx x (by simp)), h.opv (hx i (by simp))] at hp; exact hp
  case extract x i =>
    simp only [pureP, extP] at hp ⊢
    cases x with
    | tmp t => simp only [h.lkx (hx (.tmp t) (by simp) t rfl)] at hp ⊢; exact hp
    | _ => exact hp
  case call c =>
    obtain ⟨cal, args, tys⟩ := c
    simp only [Call.operands] at hx
    have hargs : ∀ x ∈ args.toList, ∀ t, x = .tmp t → memN ds t = false := fun x hxx t e => hx x (by have := Array.mem_toList_iff.1 hxx; simp [this]) t e
    cases cal with
    | builtin b =>
      cases b <;> simp only [Bool.false_eq_true] at hk <;> simp only [pureP] at hp ⊢
      · cases hl : args.toList with
        | nil => simp only [hl] at hp
        | cons x r =>
          cases r with
          | nil => simp only [hl] at hp ⊢; rw [h.opv (hargs x (by rw [hl]; simp))] at hp; exact hp
          | cons y q => simp only [hl] at hp
      · rw [h.opvs hargs] at hp; exact hp
      · rw [h.opvs hargs] at hp; exact hp
    | _ => simp at hk

theorem StillO.more {ds : List Nat} (h : Less ds st st') {o : Oper} {d : Nat} (hx : ∀ t ∈ o.looksAt ops, memN ds t = false) (hd : memN ds d = false) (hs : StillO P nt ops st' o d) : StillO P nt ops st o d := by
  obtain ⟨h1, h2, h3, h4⟩ := hs
  refine ⟨h1, h2, by rw [h.lkx hd] at h3; exact h3, ?_⟩
  rw [h.want hx, h.lkx hd] at h4
  split at h4
  · exact h.pureR h2 (fun x hxx t e => hx t (operand_looks (by rw [← e]; exact hxx))) h4
  · exact h4
  · exact h4


theorem still_put {i j : Nat} {o : Oper} {d : Nat} {c : Ct} (hj : Still P nt ops st j) (hl : ∀ oj, ops[j]? = some oj → d ∉ oj.looksAt ops) (hne : dstN ops j ≠ some d) (hd : isShD (lk st.v d) = true) (hc : isShD (lk (st.put d c).v d) = true) : Still P nt ops (st.put d c) j := by
  obtain ⟨oj, dj, hoj, hdj, hso⟩ := hj.get
  have hX : ∀ s, d ≠ s → lk (st.put d c).v s = lk st.v s := by
    intro s hs
    simp only [St.put, lk_pt, hs, if_false]
    cases hq : lk st.v d <;> simp [hq, isShD] at hd <;> rfl
  have hmem : ∀ s, memN [d] s = if d = s then true else false := fun s => by simp [memN]
  have h1 : Less [d] st ⟨killL [d] st.v, st.B⟩ := less_kill (fun s hs => by
    have : d = s := by simpa [memN] using hs
    subst this; exact hd)
  have h2 : Less [d] (st.put d c) ⟨killL [d] st.v, st.B⟩ := ⟨rfl, fun s => by
    rw [lk_killL]
    by_cases e : d = s
    · simp [memN, e]
    · simp only [memN, e, if_false, Bool.false_eq_true]; exact (hX s e).symm, fun s hs => by
    have : d = s := by simpa [memN] using hs
    subst this; exact hc⟩
  have hlook : ∀ t ∈ oj.looksAt ops, memN [d] t = false := fun t ht => by
    have : d ≠ t := fun e => hl oj hoj (e ▸ ht)
    simp [memN, this]
  have hdd : memN [d] dj = false := by
    have : d ≠ dj := fun e => hne (by simp [dstN, hoj, hdj, e])
    simp [memN, this]
  have := (hso.less h1 hlook hdd).more h2 hlook hdd
  simp only [Still, hoj, hdj]; exact this

theorem stillAll_of {l : List Nat} (h : ∀ i ∈ l, Still P nt ops st i) : stillAll P nt ops st l := by
  induction l with
  | nil => trivial
  | cons i r ih => exact ⟨h i (by simp), ih (fun j hj => h j (List.mem_cons_of_mem _ hj))⟩

/-- From here on every order comes to K, where what may wait is still good. -/
def DrS (P : Program) (nt : Nat) (fz : List Nat) (ops : Array Oper) (L S : List Nat) (st : St) (K : St → Prop) : Prop := stillAll P nt ops st S → Dr P nt fz ops L S st K

/-- No string becomes a row here. -/
def noStr (P : Program) : Op → Bool
  | .convert _ T _ => match kdOf P T with
    | .slice _ => false
    | _ => true
  | _ => true

theorem opP_pure {o : Oper} {K : St → Prop} (hpk : pureK o.op = true) (hns : noStr P o.op = true) (hx : opP P nt fz o st K) : dOk o.dst nt ∧ pureP P st o.op (fun ct => K (putO st o.dst ct)) := by
  unfold opP at hx
  refine ⟨hx.1, ?_⟩
  obtain ⟨dst, op, ty, pos, after, guard⟩ := o
  simp only at hpk hns hx ⊢
  cases op with
  | call c =>
    obtain ⟨cal, args, tys⟩ := c
    cases cal with
    | builtin b => cases b <;> first | exact hx.2 | simp [pureK] at hpk
    | _ => simp [pureK] at hpk
  | convert s T x =>
    have h2 := hx.2
    simp only at h2
    split at h2
    · rename_i hk; simp [noStr, hk] at hns
    · exact h2
  | _ => first | exact hx.2 | simp [pureK] at hpk

theorem DrS.take {L S : List Nat} {K : St → Prop} (i : Nat) {o : Oper} {d : Nat} (ho : ops[i]? = some o) (hd : o.dst = some d) (hiL : memN L i = false) (hk : okTake ops S i = true) (hdd : isShD (lk st.v d) = true)
    (hns : noStr P o.op = true) (hg : o.guard = none) (h : ∀ K' : St → Prop, (∀ st', Still P nt ops st' i → DrS P nt fz ops (i :: L) (i :: S) st' K → K' st') → opP P nt fz o st K') : DrS P nt fz ops L S st K := by
  intro hS
  refine Dr.takeK i ho hd (fun e => by rw [memN_iff.2 e] at hiL; simp at hiL) hk (fun {γ ω w x} hR => ?_)
  have hk0 := hk
  simp only [okTake, ho, hd, Bool.and_eq_true] at hk
  obtain ⟨⟨hk1, hk2⟩, hpk⟩ := hk
  have hx := h (fun st' => Still P nt ops st' i ∧ DrS P nt fz ops (i :: L) (i :: S) st' K) (fun st' h1 h2 => ⟨h1, h2⟩)
  have hx' : dOk o.dst nt ∧ pureP P st o.op (fun ct => (fun st' => Still P nt ops st' i ∧ DrS P nt fz ops (i :: L) (i :: S) st' K) (putO st o.dst ct)) := by
    exact opP_pure hpk hns hx
  obtain ⟨c, v, q1, q2, q3⟩ := pure_ok hR hx'.2
  rw [hd] at q3
  obtain ⟨q3, q4⟩ := q3
  have hR2 := hR.put (by have := hx'.1; rw [hd] at this; exact this) (q2 (.slot d))
  have hsh : isShD (lk (st.put d c).v d) = true := by
    obtain ⟨o', d', ho', hd', hs'⟩ := q3.get
    rw [ho] at ho'; injection ho' with ho'; subst ho'
    rw [hd] at hd'; injection hd' with hd'; subst hd'
    exact hs'.2.2.1
  have hall : stillAll P nt ops (st.put d c) (i :: S) := ⟨q3, stillAll_of (fun j hj => still_put (i := i) (o := o) (stillAll_get hS j hj) (fun oj hoj hm => by
      have := List.all_eq_true.1 hk1 j (List.mem_cons_of_mem _ hj)
      simp only [hoj, Bool.not_eq_true'] at this
      rw [List.contains_iff_mem.2 hm] at this; simp at this) (by
      have := List.all_eq_true.1 hk2 j hj
      simpa using this) hdd hsh)⟩
  exact ⟨c, v, hR2, hall, q4 hall⟩

theorem DrS.takeW {L S : List Nat} {K : St → Prop} (i : Nat) {o : Oper} {d : Nat} (ho : ops[i]? = some o) (hd : o.dst = some d) (hiL : memN L i = false) (hk : okTake ops S i = true) (hdd : isShD (lk st.v d) = true)
    (hns : noStr P o.op = true) (h : ∀ K' : St → Prop, (∀ st', Still P nt ops st' i → DrS P nt fz ops (i :: L) (i :: S) st' K → K' st') → opP P nt fz o st K') : DrS P nt fz ops L S st K := by
  intro hS
  refine Dr.takeK i ho hd (fun e => by rw [memN_iff.2 e] at hiL; simp at hiL) hk (fun {γ ω w x} hR => ?_)
  have hk0 := hk
  simp only [okTake, ho, hd, Bool.and_eq_true] at hk
  obtain ⟨⟨hk1, hk2⟩, hpk⟩ := hk
  have hx := h (fun st' => Still P nt ops st' i ∧ DrS P nt fz ops (i :: L) (i :: S) st' K) (fun st' h1 h2 => ⟨h1, h2⟩)
  have hx' : dOk o.dst nt ∧ pureP P st o.op (fun ct => (fun st' => Still P nt ops st' i ∧ DrS P nt fz ops (i :: L) (i :: S) st' K) (putO st o.dst ct)) := by
    exact opP_pure hpk hns hx
  obtain ⟨c, v, q1, q2, q3⟩ := pure_ok hR hx'.2
  rw [hd] at q3
  obtain ⟨q3, q4⟩ := q3
  have hR2 := hR.put (by have := hx'.1; rw [hd] at this; exact this) (q2 (.slot d))
  have hsh : isShD (lk (st.put d c).v d) = true := by
    obtain ⟨o', d', ho', hd', hs'⟩ := q3.get
    rw [ho] at ho'; injection ho' with ho'; subst ho'
    rw [hd] at hd'; injection hd' with hd'; subst hd'
    exact hs'.2.2.1
  have hall : stillAll P nt ops (st.put d c) (i :: S) := ⟨q3, stillAll_of (fun j hj => still_put (i := i) (o := o) (stillAll_get hS j hj) (fun oj hoj hm => by
      have := List.all_eq_true.1 hk1 j (List.mem_cons_of_mem _ hj)
      simp only [hoj, Bool.not_eq_true'] at this
      rw [List.contains_iff_mem.2 hm] at this; simp at this) (by
      have := List.all_eq_true.1 hk2 j hj
      simpa using this) hdd hsh)⟩
  exact ⟨c, v, hR2, hall, q4 hall⟩

/-- An operation that is passed over. -/
theorem DrS.skipW {L S : List Nat} {K : St → Prop} (i : Nat) {o : Oper} {d : Nat} (ho : ops[i]? = some o) (hd : o.dst = some d) (hiL : memN L i = false) (hk : okTake ops S i = true) (hdd : isShD (lk st.v d) = true) (hdn : d < nt)
    (hw : wantP ops st o = some false) (h : DrS P nt fz ops (i :: L) (i :: S) (st.put d (.sh (.tup []))) K) : DrS P nt fz ops L S st K := by
  intro hS
  refine Dr.takeK i ho hd (fun e => by rw [memN_iff.2 e] at hiL; simp at hiL) hk (fun {γ ω w x} hR => ?_)
  simp only [okTake, ho, hd, Bool.and_eq_true] at hk
  obtain ⟨⟨hk1, hk2⟩, hpk⟩ := hk
  have hR2 := hR.put hdn (c := .sh (.tup [])) (v := undef) rep_undef
  have hlk : ∀ s, lk (st.put d (.sh (.tup []))).v s = if d = s then .sh (.tup []) else lk st.v s := by
    intro s
    simp only [St.put]
    cases hc : lk st.v d <;> rw [hc] at hdd <;> simp [isShD] at hdd <;> simp only [lk_pt] <;> by_cases e : d = s <;> simp [e, Ct.refs]
  have hself : Still P nt ops (st.put d (.sh (.tup []))) i := by
    have hnl : d ∉ o.looksAt ops := by
      have := List.all_eq_true.1 hk1 i (by simp)
      simp only [ho, Bool.not_eq_true'] at this
      intro hm
      rw [List.contains_iff_mem.2 hm] at this; simp at this
    have hd1 : lk (st.put d (.sh (.tup []))).v d = .sh (.tup []) := by rw [hlk]; simp
    have hw2 : wantP ops (st.put d (.sh (.tup []))) o = some false := by
      unfold wantP at hw ⊢
      cases hg : o.guard with
      | none => rw [hg] at hw; simp at hw
      | some y =>
        obtain ⟨j, want⟩ := y
        rw [hg] at hw
        simp only at hw ⊢
        cases hj : (ops[j]?).bind (·.dst) with
        | none => rw [hj] at hw; simp at hw
        | some e =>
          rw [hj] at hw
          simp only at hw ⊢
          have hne : d ≠ e := fun h => hnl (h ▸ guard_looks hg hj)
          rw [hlk, if_neg hne]
          cases hc : lk st.v e <;> rw [hc] at hw <;> first | exact hw | (simp at hw)
    simp only [Still, ho, hd, StillO]
    refine ⟨hdn, hpk, by rw [hd1]; rfl, ?_⟩
    rw [hw2]; exact hd1
  have hsh : isShD (lk (st.put d (.sh (.tup []))).v d) = true := by rw [hlk]; simp [isShD]
  have hall : stillAll P nt ops (st.put d (.sh (.tup []))) (i :: S) := ⟨hself, stillAll_of (fun j hj => still_put (i := i) (o := o) (stillAll_get hS j hj) (fun oj hoj hm => by
      have := List.all_eq_true.1 hk1 j (List.mem_cons_of_mem _ hj)
      simp only [hoj, Bool.not_eq_true'] at this
      rw [List.contains_iff_mem.2 hm] at this; simp at this) (by
      have := List.all_eq_true.1 hk2 j hj
      simpa using this) hdd hsh)⟩
  exact ⟨_, _, hR2, hall, h hall⟩

/-- The same, with a guard that is known. -/
theorem Still.ofW {i : Nat} {o : Oper} {d : Nat} {m : MV} (ho : ops[i]? = some o) (hd : o.dst = some d) (hpk : pureK o.op = true) (hns : noStr P o.op = true) (hw : wantP ops st o = some true) (hm : lk st.v d = .sh m)
    (h : ∀ K' : St → Prop, (∀ st', lk st'.v d = .sh m → K' st') → opP P nt [] o st K') : Still P nt ops st i := by
  have hx := h (fun st' => lk st'.v d = .sh m) (fun _ h => h)
  have hx' : dOk o.dst nt ∧ pureP P st o.op (fun ct => (fun st' : St => lk st'.v d = .sh m) (putO st o.dst ct)) := opP_pure hpk hns hx
  simp only [Still, ho, hd, StillO, hw]
  refine ⟨by have := hx'.1; rw [hd] at this; exact this, hpk, by rw [hm]; rfl, ?_⟩
  have e : (fun ct => (fun st' : St => lk st'.v d = .sh m) (putO st o.dst ct)) = (fun c => c = lk st.v d) := by
    funext ct
    rw [hd, hm]
    simp only [putO, St.put, lk_pt, if_true]
    cases ct <;> simp [Ct.refs]
    · split <;> simp
    · split <;> simp
  rw [← e]; exact hx'.2

theorem Still.ofS {i : Nat} {o : Oper} {d : Nat} (ho : ops[i]? = some o) (hd : o.dst = some d) (hpk : pureK o.op = true) (hdn : d < nt) (hw : wantP ops st o = some false) (hm : lk st.v d = .sh (.tup [])) : Still P nt ops st i := by
  simp only [Still, ho, hd, StillO, hw]
  exact ⟨hdn, hpk, by rw [hm]; rfl, hm⟩

theorem DrS.done {L S : List Nat} {K : St → Prop} (hreg : regOk ops = true) (hL : (List.range ops.size).all (fun i => memN L i) = true) (hK : K st) : DrS P nt fz ops L S st K :=
  fun _ => Dr.done hreg (fun i hi => memN_iff.1 (List.all_eq_true.1 hL i (List.mem_range.2 hi))) hK

/-- One operation is next, and it alone. -/
theorem DrS.one {L S : List Nat} {K : St → Prop} (j : Nat) {o : Oper} {S' : List Nat} (hreg : regOk ops = true) (hrs : nextOf ops L = [j]) (ho : ops[j]? = some o) (hS' : restOf ops S j = S')
    (h : ∀ K' : St → Prop, (∀ st', stillAll P nt ops st' S' → DrS P nt fz ops (j :: L) S' st' K → K' st') → gdP P nt fz ops o st K') : DrS P nt fz ops L S st K := by
  intro hS
  refine Dr.all hreg hrs (by simp) ?_
  simp only [allN, ho]
  rw [hS']
  exact h _ (fun st' h1 h2 => ⟨h1, h2 h1⟩)

theorem Still.ofOp {i : Nat} {o : Oper} {d : Nat} {m : MV} (ho : ops[i]? = some o) (hd : o.dst = some d) (hpk : pureK o.op = true) (hns : noStr P o.op = true) (hg : o.guard = none) (hm : lk st.v d = .sh m)
    (h : ∀ K' : St → Prop, (∀ st', lk st'.v d = .sh m → K' st') → opP P nt [] o st K') : Still P nt ops st i := by
  have hx := h (fun st' => lk st'.v d = .sh m) (fun _ h => h)
  have hx' : dOk o.dst nt ∧ pureP P st o.op (fun ct => (fun st' : St => lk st'.v d = .sh m) (putO st o.dst ct)) := by
    exact opP_pure hpk hns hx
  simp only [Still, ho, hd, StillO, wantP, hg]
  refine ⟨by have := hx'.1; rw [hd] at this; exact this, hpk, by rw [hm]; rfl, ?_⟩
  have e : (fun ct => (fun st' : St => lk st'.v d = .sh m) (putO st o.dst ct)) = (fun c => c = lk st.v d) := by
    funext ct
    rw [hd, hm]
    simp only [putO, St.put, lk_pt, if_true]
    cases ct <;> simp [Ct.refs]
    · split <;> simp
    · split <;> simp
  rw [← e]; exact hx'.2

theorem PW.sdrawQ {Q : PX → St → Prop} (fz : List Nat) {id : Nat} {ops : Array Oper} {y : Code} (hm : P.follows .mixedOrders = true) (hreg : regOk ops = true) (h : ∀ K : St → Prop, (∀ st', PW P nt y st' Q → K st') → DrS P nt fz ops [] [] st K) : PW P nt (.seq (.region id ops true) y) st Q :=
  PW.sdraw fz hm hreg (fun K hK => h K hK trivial)

theorem PW.drawQ {Q : PX → St → Prop} (fz : List Nat) {id : Nat} {ops : Array Oper} (hm : P.follows .mixedOrders = true) (hreg : regOk ops = true) (h : ∀ K : St → Prop, (∀ st', Q .normal st' → K st') → DrS P nt fz ops [] [] st K) : PW P nt (.region id ops true) st Q :=
  PW.dreg fz hm hreg (h (fun st' => Q .normal st') (fun _ h => h) trivial)


theorem drop_get {i : Nat} {o : Oper} {r : List Oper} (h : ops.toList.drop i = o :: r) : ops[i]? = some o := by
  have := congrArg (fun l => l[0]?) h
  simpa [List.getElem?_drop] using this

theorem DrS.takeR {L S : List Nat} {K : St → Prop} (i : Nat) {od : Option Tmp} {op : Op} {ty : TypeId} {pos : String} {after : Array Edge} {r : List Oper} {d : Nat} (hr : memN (nextOf ops L) i = true) (ho : ops.toList.drop i = ⟨od, op, ty, pos, after, none⟩ :: r) (hd : od = some d) (hiL : memN L i = false) (hk : okTake ops S i = true) (hdd : isShD (lk st.v d) = true) (hns : noStr P op = true)
    (h : ∀ K' : St → Prop, (∀ st', Still P nt ops st' i → DrS P nt fz ops (i :: L) (i :: S) st' K → K' st') → opP P nt fz ⟨od, op, ty, "", #[], none⟩ st K') : DrS P nt fz ops L S st K := DrS.take i (drop_get ho) hd hiL hk hdd hns rfl h

/-- An unguarded operation is next, and it alone. -/
theorem DrS.oneU {L S : List Nat} {K : St → Prop} (j : Nat) {od : Option Tmp} {op : Op} {ty : TypeId} {pos : String} {after : Array Edge} {r : List Oper} {S' : List Nat} (hreg : regOk ops = true) (hrs : nextOf ops L = [j]) (ho : ops.toList.drop j = ⟨od, op, ty, pos, after, none⟩ :: r) (hS' : restOf ops S j = S')
    (h : ∀ K' : St → Prop, (∀ st', stillAll P nt ops st' S' → DrS P nt fz ops (j :: L) S' st' K → K' st') → opP P nt fz ⟨od, op, ty, "", #[], none⟩ st K') : DrS P nt fz ops L S st K :=
  DrS.one j hreg hrs (drop_get ho) hS' (fun K' hK => by unfold gdP; exact h K' hK)

theorem Still.ofR {i : Nat} {od : Option Tmp} {op : Op} {ty : TypeId} {pos : String} {after : Array Edge} {r : List Oper} {d : Nat} {m : MV} (ho : ops.toList.drop i = ⟨od, op, ty, pos, after, none⟩ :: r) (hd : od = some d) (hpk : pureK op = true) (hns : noStr P op = true) (hm : lk st.v d = .sh m)
    (h : ∀ K' : St → Prop, (∀ st', lk st'.v d = .sh m → K' st') → opP P nt [] ⟨od, op, ty, "", #[], none⟩ st K') : Still P nt ops st i := Still.ofOp (drop_get ho) hd hpk hns rfl hm h


def upto : Nat → List Nat
  | 0 => []
  | n + 1 => n :: upto n

/-- From here on every order comes to K; the first n operations are done. -/
def DrN (P : Program) (nt : Nat) (fz : List Nat) (ops : Array Oper) (n : Nat) (rest : List Oper) (S : List Nat) (st : St) (K : St → Prop) : Prop := ops.toList.drop n = rest → DrS P nt fz ops (upto n) S st K

theorem upto_mem : ∀ (n i : Nat), i ∈ upto n ↔ i < n
  | 0, i => by simp [upto]
  | n + 1, i => by
    simp only [upto, List.mem_cons, upto_mem n i]; omega

theorem DrN.start {K : St → Prop} {rest : List Oper} (hr : ops.toList = rest) (h : DrN P nt fz ops 0 rest [] st K) : DrS P nt fz ops [] [] st K := h (by simpa using hr)

theorem DrN.done {n : Nat} {S : List Nat} {K : St → Prop} (hreg : regOk ops = true) (hK : K st) : DrN P nt fz ops n [] S st K := by
  intro hd
  have hn : ops.size ≤ n := by
    have := congrArg List.length hd
    simp at this; omega
  exact DrS.done hreg (List.all_eq_true.2 (fun i hi => memN_iff.2 ((upto_mem n i).2 (by have := List.mem_range.1 hi; omega)))) hK

theorem DrN.take {n : Nat} {od : Option Tmp} {op : Op} {ty : TypeId} {pos : String} {after : Array Edge} {r : List Oper} {S : List Nat} {K : St → Prop} {d : Nat} (hpk : pureK op = true) (hd : od = some d) (hk : okTake ops S n = true) (hdd : isShD (lk st.v d) = true) (hns : noStr P op = true)
    (h : ∀ K' : St → Prop, (∀ st', Still P nt ops st' n → DrN P nt fz ops (n + 1) r (n :: S) st' K → K' st') → opP P nt fz ⟨od, op, ty, "", #[], none⟩ st K') : DrN P nt fz ops n (⟨od, op, ty, pos, after, none⟩ :: r) S st K := by
  intro hdr
  refine DrS.take n (drop_get hdr) hd ?_ hk hdd hns rfl (fun K' hK => h K' (fun st' h1 h2 => hK st' h1 (h2 ?_)))
  · cases hm : memN (upto n) n with
    | false => rfl
    | true => have := (upto_mem n n).1 (memN_iff.1 hm); omega
  · rw [← List.drop_drop, hdr]; rfl

theorem DrN.one {n : Nat} {od : Option Tmp} {op : Op} {ty : TypeId} {pos : String} {after : Array Edge} {r : List Oper} {S : List Nat} {K : St → Prop} (S' : List Nat) (hreg : regOk ops = true) (hrs : nextOf ops (upto n) = [n]) (hS' : restOf ops S n = S')
    (h : ∀ K' : St → Prop, (∀ st', stillAll P nt ops st' S' → DrN P nt fz ops (n + 1) r S' st' K → K' st') → opP P nt fz ⟨od, op, ty, "", #[], none⟩ st K') : DrN P nt fz ops n (⟨od, op, ty, pos, after, none⟩ :: r) S st K := by
  intro hdr
  refine DrS.oneU n hreg hrs hdr hS' (fun K' hK => h K' (fun st' h1 h2 => hK st' h1 (h2 ?_)))
  rw [← List.drop_drop, hdr]; rfl

/-- The last one of a region that comes behind all others. -/
theorem DrN.last {n : Nat} {od : Option Tmp} {op : Op} {ty : TypeId} {pos : String} {after : Array Edge} {S : List Nat} {K : St → Prop} (hreg : regOk ops = true) (hrs : nextOf ops (upto n) = [n]) (hS' : restOf ops S n = [])
    (h : ∀ K' : St → Prop, (∀ st', K st' → K' st') → opP P nt fz ⟨od, op, ty, "", #[], none⟩ st K') : DrN P nt fz ops n [⟨od, op, ty, pos, after, none⟩] S st K :=
  DrN.one [] hreg hrs hS' (fun K' hK => h K' (fun st' h1 => hK st' trivial (DrN.done hreg h1)))

theorem PW.sdrawN {Q : PX → St → Prop} (fz : List Nat) {id : Nat} {ops : Array Oper} {y : Code} (hm : P.follows .mixedOrders = true) (hreg : regOk ops = true) (h : ∀ K : St → Prop, (∀ st', PW P nt y st' Q → K st') → DrN P nt fz ops 0 ops.toList [] st K) : PW P nt (.seq (.region id ops true) y) st Q :=
  PW.sdrawQ fz hm hreg (fun K hK => DrN.start rfl (h K hK))

theorem PW.drawN {Q : PX → St → Prop} (fz : List Nat) {id : Nat} {ops : Array Oper} (hm : P.follows .mixedOrders = true) (hreg : regOk ops = true) (h : ∀ K : St → Prop, (∀ st', Q .normal st' → K st') → DrN P nt fz ops 0 ops.toList [] st K) : PW P nt (.region id ops true) st Q :=
  PW.drawQ fz hm hreg (fun K hK => DrN.start rfl (h K hK))

end
end Go.Pv

end M28
