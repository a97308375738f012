/- A library of this session: open orders, short roads. -/
import Derived.Test.YtoakchnegkmepaaM27
set_option linter.unusedVariables false
set_option linter.unusedSimpArgs false
namespace Go.Pv
section
variable {P : Program} {nt : Nat} {st st' : St} {ops : Array Oper} {fz : List Nat}

/-- The other way round: what is not looked at may be known. -/
theorem Less.pureR {ds : List Nat} (h : Less ds st st') {op : Op} (hk : pureK op = true) (hx : ∀ x ∈ op.operands, ∀ t, x = .tmp t → memN ds t = false) {K : Ct → Prop} (hp : pureP P st' op K) : pureP P st op K := by
  cases op <;> simp only [pureK, Bool.false_eq_true] at hk <;> simp only [Op.operands] at hx
  case move x =>
    simp only [pureP, movP] at hp ⊢
    cases x with
    | tmp t => simp only at hp ⊢; rw [h.lkx (hx (.tmp t) (by simp) t rfl)] at hp; exact hp
    | _ => exact hp
  case pick c x y =>
    simp only [pureP] at hp ⊢
    rw [h.opv (hx c (by simp)), h.shv (hx x (by simp)), h.shv (hx y (by simp))] at hp; exact hp
  case load T x =>
    simp only [pureP, loadP] at hp ⊢
    split at hp
    · exact hp
    · rename_i ti hti
      cases x with
      | tmp t =>
        simp only [h.lkx (hx (.tmp t) (by simp) t rfl), h.B] at hp ⊢
        cases hc : Go.Pv.lk st.v t with
        | eadr p i off =>
          simp only [hc] at hp ⊢
          rcases h.at p with e | ⟨e1, e2⟩
          · rw [e] at hp; exact hp
          · rw [e2] at hp; exact hp.elim
        | sh m => cases m <;> simp only [hc] at hp ⊢ <;> exact hp
        | _ => simp only [hc] at hp ⊢ <;> exact hp
      | _ => exact hp
  case nilCheck x =>
    simp only [pureP, ncP] at hp ⊢
    cases x with
    | tmp t => simp only [h.lkx (hx (.tmp t) (by simp) t rfl)] at hp ⊢; exact hp
    | _ => exact hp
  case binOp op T x y ty =>
    simp only [pureP, binE] at hp ⊢
    have hn : nilness st' x = nilness st x := by
      cases x with
      | tmp t =>
        simp only [nilness, h.lkx (hx (.tmp t) (by simp) t rfl)]
        cases hc : Go.Pv.lk st.v t with
        | al p =>
          simp only
          rcases h.at p with e | ⟨e1, e2⟩
          · rw [e]
          · rw [e2]
            cases hq : st.at p <;> simp [hq, isShD] at e1 ⊢
        | sh m => cases m <;> first | rfl | (rename_i es; cases es <;> rfl)
        | own sz m => cases m <;> first | rfl | (rename_i es; cases es <;> rfl)
        | _ => rfl
      | _ => rfl
    rw [hn, h.opv (hx x (by simp)), h.opv (hx y (by simp))] at hp; exact hp
  case unOp op T x =>
    simp only [pureP] at hp ⊢
    rw [h.opv (hx x (by simp))] at hp; exact hp
  case convert s d x =>
    simp only [pureP] at hp ⊢
    rw [h.opv (hx x (by simp))] at hp; exact hp
  case makeFunc fn fs cs =>
    cases fn <;> simp only [pureP] at hp ⊢
    · rw [h.shvs (fun x hxx t e => hx x (by have := Array.mem_toList_iff.1 hxx; simp [this]) t e)] at hp; exact hp
    all_goals exact hp
  case slice T x lo hi mx =>
    cases mx with
    | some m => simp only [pureP] at hp
    | none =>
      simp only [pureP, sliceP] at hp ⊢
      have hlo : ∀ n, bndOf st' n lo = bndOf st n lo := fun n => h.bnd n (fun y hy => hx y (by subst hy; simp))
      have hhi : ∀ n, bndOf st' n hi = bndOf st n hi := fun n => h.bnd n (fun y hy => hx y (by subst hy; cases lo <;> simp))
      cases x with
      | tmp t =>
        simp only [hlo, hhi, h.opv (hx (.tmp t) (by simp)), h.lkx (hx (.tmp t) (by simp) t rfl)] at hp; exact hp
      | const v => simp only [hlo, hhi, h.opv (x := .const v) (fun t e => by cases e)] at hp; exact hp
      | func v => simp only [hlo, hhi, h.opv (x := .func v) (fun t e => by cases e)] at hp; exact hp
      | global v => simp only [hlo, hhi, h.opv (x := .global v) (fun t e => by cases e)] at hp; exact hp
  case fieldAddr T x f =>
    simp only [pureP, faP] at hp ⊢
    cases x with
    | tmp t => simp only [h.lkx (hx (.tmp t) (by simp) t rfl)] at hp ⊢; exact hp
    | _ => exact hp
  case field T x f =>
    simp only [pureP, fieldP] at hp ⊢
    rw [h.opv (hx x (by simp))] at hp; exact hp
  case indexAddr T x i =>
    simp only [pureP, iaP] at hp ⊢
    cases x with
    | tmp t =>
      simp only [h.opv (hx i (by simp)), h.lkx (hx (.tmp t) (by simp) t rfl)] at hp ⊢
      cases hc : Go.Pv.lk st.v t with
      | al p =>
        simp only [hc] at hp ⊢
        rcases h.at p with e | ⟨e1, e2⟩
        · rw [e] at hp; exact hp
        · rw [e2] at hp
          exfalso
          split at hp
          · split at hp
            · obtain ⟨_, _, hp⟩ := hp; exact hp
            · exact hp
          · exact hp
      | sh m => cases m <;> simp only [hc] at hp ⊢ <;> exact hp
      | own sz m => cases m <;> simp only [hc] at hp ⊢ <;> exact hp
      | _ => simp only [hc] at hp ⊢ <;> exact hp
    | _ => simp only [h.opv (hx i (by simp))] at hp ⊢; exact hp
  case index T x i =>
    simp only [pureP, idxP] at hp ⊢
    rw [h.opv (hx x (by simp)), h.opv (hx i (by simp))] at hp; exact hp
  case extract x i =>
    simp only [pureP, extP] at hp ⊢
    cases x with
    | tmp t => simp only [h.lkx (hx (.tmp t) (by simp) t rfl)] at hp ⊢; exact hp
    | _ => exact hp
  case call c =>
    obtain ⟨cal, args, tys⟩ := c
    simp only [Call.operands] at hx
    have hargs : ∀ x ∈ args.toList, ∀ t, x = .tmp t → memN ds t = false := fun x hxx t e => hx x (by have := Array.mem_toList_iff.1 hxx; simp [this]) t e
    cases cal with
    | builtin b =>
      cases b <;> simp only [Bool.false_eq_true] at hk <;> simp only [pureP] at hp ⊢
      · cases hl : args.toList with
        | nil => simp only [hl] at hp
        | cons x r =>
          cases r with
          | nil => simp only [hl] at hp ⊢; rw [h.opv (hargs x (by rw [hl]; simp))] at hp; exact hp
          | cons y q => simp only [hl] at hp
      · rw [h.opvs hargs] at hp; exact hp
      · rw [h.opvs hargs] at hp; exact hp
    | _ => simp at hk

theorem StillO.more {ds : List Nat} (h : Less ds st st') {o : Oper} {d : Nat} (hx : ∀ t ∈ o.looksAt ops, memN ds t = false) (hd : memN ds d = false) (hs : StillO P nt ops st' o d) : StillO P nt ops st o d := by
  obtain ⟨h1, h2, h3, h4⟩ := hs
  refine ⟨h1, h2, by rw [h.lkx hd] at h3; exact h3, ?_⟩
  rw [h.want hx, h.lkx hd] at h4
  split at h4
  · exact h.pureR h2 (fun x hxx t e => hx t (operand_looks (by rw [← e]; exact hxx))) h4
  · exact h4
  · exact h4


theorem still_put {i j : Nat} {o : Oper} {d : Nat} {c : Ct} (hj : Still P nt ops st j) (hl : ∀ oj, ops[j]? = some oj → d ∉ oj.looksAt ops) (hne : dstN ops j ≠ some d) (hd : isShD (lk st.v d) = true) (hc : isShD (lk (st.put d c).v d) = true) : Still P nt ops (st.put d c) j := by
  obtain ⟨oj, dj, hoj, hdj, hso⟩ := hj.get
  have hX : ∀ s, d ≠ s → lk (st.put d c).v s = lk st.v s := by
    intro s hs
    simp only [St.put, lk_pt, hs, if_false]
    cases hq : lk st.v d <;> simp [hq, isShD] at hd <;> rfl
  have hmem : ∀ s, memN [d] s = if d = s then true else false := fun s => by simp [memN]
  have h1 : Less [d] st ⟨killL [d] st.v, st.B⟩ := less_kill (fun s hs => by
    have : d = s := by simpa [memN] using hs
    subst this; exact hd)
  have h2 : Less [d] (st.put d c) ⟨killL [d] st.v, st.B⟩ := ⟨rfl, fun s => by
    rw [lk_killL]
    by_cases e : d = s
    · simp [memN, e]
    · simp only [memN, e, if_false, Bool.false_eq_true]; exact (hX s e).symm, fun s hs => by
    have : d = s := by simpa [memN] using hs
    subst this; exact hc⟩
  have hlook : ∀ t ∈ oj.looksAt ops, memN [d] t = false := fun t ht => by
    have : d ≠ t := fun e => hl oj hoj (e ▸ ht)
    simp [memN, this]
  have hdd : memN [d] dj = false := by
    have : d ≠ dj := fun e => hne (by simp [dstN, hoj, hdj, e])
    simp [memN, this]
  have := (hso.less h1 hlook hdd).more h2 hlook hdd
  simp only [Still, hoj, hdj]; exact this

theorem stillAll_of {l : List Nat} (h : ∀ i ∈ l, Still P nt ops st i) : stillAll P nt ops st l := by
  induction l with
  | nil => trivial
  | cons i r ih => exact ⟨h i (by simp), ih (fun j hj => h j (List.mem_cons_of_mem _ hj))⟩

/-- From here on every order comes to K, where what may wait is still good. -/
def DrS (P : Program) (nt : Nat) (fz : List Nat) (ops : Array Oper) (L S : List Nat) (st : St) (K : St → Prop) : Prop := stillAll P nt ops st S → Dr P nt fz ops L S st K

/-- No string becomes a row here. -/
def noStr (P : Program) : Op → Bool
  | .convert _ T _ => match kdOf P T with
    | .slice _ => false
    | _ => true
  | _ => true

theorem opP_pure {o : Oper} {K : St → Prop} (hpk : pureK o.op = true) (hns : noStr P o.op = true) (hx : opP P nt fz o st K) : dOk o.dst nt ∧ pureP P st o.op (fun ct => K (putO st o.dst ct)) := by
  unfold opP at hx
  refine ⟨hx.1, ?_⟩
  obtain ⟨dst, op, ty, pos, after, guard⟩ := o
  simp only at hpk hns hx ⊢
  cases op with
  | call c =>
    obtain ⟨cal, args, tys⟩ := c
    cases cal with
    | builtin b => cases b <;> first | exact hx.2 | simp [pureK] at hpk
    | _ => simp [pureK] at hpk
  | convert s T x =>
    have h2 := hx.2
    simp only at h2
    split at h2
    · rename_i hk; simp [noStr, hk] at hns
    · exact h2
  | _ => first | exact hx.2 | simp [pureK] at hpk

theorem DrS.take {L S : List Nat} {K : St → Prop} (i : Nat) {o : Oper} {d : Nat} (ho : ops[i]? = some o) (hd : o.dst = some d) (hiL : memN L i = false) (hk : okTake ops S i = true) (hdd : isShD (lk st.v d) = true)
    (hns : noStr P o.op = true) (hg : o.guard = none) (h : ∀ K' : St → Prop, (∀ st', Still P nt ops st' i → DrS P nt fz ops (i :: L) (i :: S) st' K → K' st') → opP P nt fz o st K') : DrS P nt fz ops L S st K := by
  intro hS
  refine Dr.takeK i ho hd (fun e => by rw [memN_iff.2 e] at hiL; simp at hiL) hk (fun {γ ω w x} hR => ?_)
  have hk0 := hk
  simp only [okTake, ho, hd, Bool.and_eq_true] at hk
  obtain ⟨⟨hk1, hk2⟩, hpk⟩ := hk
  have hx := h (fun st' => Still P nt ops st' i ∧ DrS P nt fz ops (i :: L) (i :: S) st' K) (fun st' h1 h2 => ⟨h1, h2⟩)
  have hx' : dOk o.dst nt ∧ pureP P st o.op (fun ct => (fun st' => Still P nt ops st' i ∧ DrS P nt fz ops (i :: L) (i :: S) st' K) (putO st o.dst ct)) := by
    exact opP_pure hpk hns hx
  obtain ⟨c, v, q1, q2, q3⟩ := pure_ok hR hx'.2
  rw [hd] at q3
  obtain ⟨q3, q4⟩ := q3
  have hR2 := hR.put (by have := hx'.1; rw [hd] at this; exact this) (q2 (.slot d))
  have hsh : isShD (lk (st.put d c).v d) = true := by
    obtain ⟨o', d', ho', hd', hs'⟩ := q3.get
    rw [ho] at ho'; injection ho' with ho'; subst ho'
    rw [hd] at hd'; injection hd' with hd'; subst hd'
    exact hs'.2.2.1
  have hall : stillAll P nt ops (st.put d c) (i :: S) := ⟨q3, stillAll_of (fun j hj => still_put (i := i) (o := o) (stillAll_get hS j hj) (fun oj hoj hm => by
      have := List.all_eq_true.1 hk1 j (List.mem_cons_of_mem _ hj)
      simp only [hoj, Bool.not_eq_true'] at this
      rw [List.contains_iff_mem.2 hm] at this; simp at this) (by
      have := List.all_eq_true.1 hk2 j hj
      simpa using this) hdd hsh)⟩
  exact ⟨c, v, hR2, hall, q4 hall⟩

theorem DrS.takeW {L S : List Nat} {K : St → Prop} (i : Nat) {o : Oper} {d : Nat} (ho : ops[i]? = some o) (hd : o.dst = some d) (hiL : memN L i = false) (hk : okTake ops S i = true) (hdd : isShD (lk st.v d) = true)
    (hns : noStr P o.op = true) (h : ∀ K' : St → Prop, (∀ st', Still P nt ops st' i → DrS P nt fz ops (i :: L) (i :: S) st' K → K' st') → opP P nt fz o st K') : DrS P nt fz ops L S st K := by
  intro hS
  refine Dr.takeK i ho hd (fun e => by rw [memN_iff.2 e] at hiL; simp at hiL) hk (fun {γ ω w x} hR => ?_)
  have hk0 := hk
  simp only [okTake, ho, hd, Bool.and_eq_true] at hk
  obtain ⟨⟨hk1, hk2⟩, hpk⟩ := hk
  have hx := h (fun st' => Still P nt ops st' i ∧ DrS P nt fz ops (i :: L) (i :: S) st' K) (fun st' h1 h2 => ⟨h1, h2⟩)
  have hx' : dOk o.dst nt ∧ pureP P st o.op (fun ct => (fun st' => Still P nt ops st' i ∧ DrS P nt fz ops (i :: L) (i :: S) st' K) (putO st o.dst ct)) := by
    exact opP_pure hpk hns hx
  obtain ⟨c, v, q1, q2, q3⟩ := pure_ok hR hx'.2
  rw [hd] at q3
  obtain ⟨q3, q4⟩ := q3
  have hR2 := hR.put (by have := hx'.1; rw [hd] at this; exact this) (q2 (.slot d))
  have hsh : isShD (lk (st.put d c).v d) = true := by
    obtain ⟨o', d', ho', hd', hs'⟩ := q3.get
    rw [ho] at ho'; injection ho' with ho'; subst ho'
    rw [hd] at hd'; injection hd' with hd'; subst hd'
    exact hs'.2.2.1
  have hall : stillAll P nt ops (st.put d c) (i :: S) := ⟨q3, stillAll_of (fun j hj => still_put (i := i) (o := o) (stillAll_get hS j hj) (fun oj hoj hm => by
      have := List.all_eq_true.1 hk1 j (List.mem_cons_of_mem _ hj)
      simp only [hoj, Bool.not_eq_true'] at this
      rw [List.contains_iff_mem.2 hm] at this; simp at this) (by
      have := List.all_eq_true.1 hk2 j hj
      simpa using this) hdd hsh)⟩
  exact ⟨c, v, hR2, hall, q4 hall⟩

/-- An operation that is passed over. -/
theorem DrS.skipW {L S : List Nat} {K : St → Prop} (i : Nat) {o : Oper} {d : Nat} (ho : ops[i]? = some o) (hd : o.dst = some d) (hiL : memN L i = false) (hk : okTake ops S i = true) (hdd : isShD (lk st.v d) = true) (hdn : d < nt)
    (hw : wantP ops st o = some false) (h : DrS P nt fz ops (i :: L) (i :: S) (st.put d (.sh (.tup []))) K) : DrS P nt fz ops L S st K := by
  intro hS
  refine Dr.takeK i ho hd (fun e => by rw [memN_iff.2 e] at hiL; simp at hiL) hk (fun {γ ω w x} hR => ?_)
  simp only [okTake, ho, hd, Bool.and_eq_true] at hk
  obtain ⟨⟨hk1, hk2⟩, hpk⟩ := hk
  have hR2 := hR.put hdn (c := .sh (.tup [])) (v := undef) rep_undef
  have hlk : ∀ s, lk (st.put d (.sh (.tup []))).v s = if d = s then .sh (.tup []) else lk st.v s := by
    intro s
    simp only [St.put]
    cases hc : lk st.v d <;> rw [hc] at hdd <;> simp [isShD] at hdd <;> simp only [lk_pt] <;> by_cases e : d = s <;> simp [e, Ct.refs]
  have hself : Still P nt ops (st.put d (.sh (.tup []))) i := by
    have hnl : d ∉ o.looksAt ops := by
      have := List.all_eq_true.1 hk1 i (by simp)
      simp only [ho, Bool.not_eq_true'] at this
      intro hm
      rw [List.contains_iff_mem.2 hm] at this; simp at this
    have hd1 : lk (st.put d (.sh (.tup []))).v d = .sh (.tup []) := by rw [hlk]; simp
    have hw2 : wantP ops (st.put d (.sh (.tup []))) o = some false := by
      unfold wantP at hw ⊢
      cases hg : o.guard with
      | none => rw [hg] at hw; simp at hw
      | some y =>
        obtain ⟨j, want⟩ := y
        rw [hg] at hw
        simp only at hw ⊢
        cases hj : (ops[j]?).bind (·.dst) with
        | none => rw [hj] at hw; simp at hw
        | some e =>
          rw [hj] at hw
          simp only at hw ⊢
          have hne : d ≠ e := fun h => hnl (h ▸ guard_looks hg hj)
          rw [hlk, if_neg hne]
          cases hc : lk st.v e <;> rw [hc] at hw <;> first | exact hw | (simp at hw)
    simp only [Still, ho, hd, StillO]
    refine ⟨hdn, hpk, by rw [hd1]; rfl, ?_⟩
    rw [hw2]; exact hd1
  have hsh : isShD (lk (st.put d (.sh (.tup []))).v d) = true := by rw [hlk]; simp [isShD]
  have hall : stillAll P nt ops (st.put d (.sh (.tup []))) (i :: S) := ⟨hself, stillAll_of (fun j hj => still_put (i := i) (o := o) (stillAll_get hS j hj) (fun oj hoj hm => by
      have := List.all_eq_true.1 hk1 j (List.mem_cons_of_mem _ hj)
      simp only [hoj, Bool.not_eq_true'] at this
      rw [List.contains_iff_mem.2 hm] at this; simp at this) (by
      have := List.all_eq_true.1 hk2 j hj
      simpa using this) hdd hsh)⟩
  exact ⟨_, _, hR2, hall, h hall⟩

/-- The same, with a guard that is known. -/
theorem Still.ofW {i : Nat} {o : Oper} {d : Nat} {m : MV} (ho : ops[i]? = some o) (hd : o.dst = some d) (hpk : pureK o.op = true) (hns : noStr P o.op = true) (hw : wantP ops st o = some true) (hm : lk st.v d = .sh m)
    (h : ∀ K' : St → Prop, (∀ st', lk st'.v d = .sh m → K' st') → opP P nt [] o st K') : Still P nt ops st i := by
  have hx := h (fun st' => lk st'.v d = .sh m) (fun _ h => h)
  have hx' : dOk o.dst nt ∧ pureP P st o.op (fun ct => (fun st' : St => lk st'.v d = .sh m) (putO st o.dst ct)) := opP_pure hpk hns hx
  simp only [Still, ho, hd, StillO, hw]
  refine ⟨by have := hx'.1; rw [hd] at this; exact this, hpk, by rw [hm]; rfl, ?_⟩
  have e : (fun ct => (fun st' : St => lk st'.v d = .sh m) (putO st o.dst ct)) = (fun c => c = lk st.v d) := by
    funext ct
    rw [hd, hm]
    simp only [putO, St.put, lk_pt, if_true]
    cases ct <;> simp [Ct.refs]
    · split <;> simp
    · split <;> simp
  rw [← e]; exact hx'.2

theorem Still.ofS {i : Nat} {o : Oper} {d : Nat} (ho : ops[i]? = some o) (hd : o.dst = some d) (hpk : pureK o.op = true) (hdn : d < nt) (hw : wantP ops st o = some false) (hm : lk st.v d = .sh (.tup [])) : Still P nt ops st i := by
  simp only [Still, ho, hd, StillO, hw]
  exact ⟨hdn, hpk, by rw [hm]; rfl, hm⟩

theorem DrS.done {L S : List Nat} {K : St → Prop} (hreg : regOk ops = true) (hL : (List.range ops.size).all (fun i => memN L i) = true) (hK : K st) : DrS P nt fz ops L S st K :=
  fun _ => Dr.done hreg (fun i hi => memN_iff.1 (List.all_eq_true.1 hL i (List.mem_range.2 hi))) hK

/-- One operation is next, and it alone. -/
theorem DrS.one {L S : List Nat} {K : St → Prop} (j : Nat) {o : Oper} {S' : List Nat} (hreg : regOk ops = true) (hrs : nextOf ops L = [j]) (ho : ops[j]? = some o) (hS' : restOf ops S j = S')
    (h : ∀ K' : St → Prop, (∀ st', stillAll P nt ops st' S' → DrS P nt fz ops (j :: L) S' st' K → K' st') → gdP P nt fz ops o st K') : DrS P nt fz ops L S st K := by
  intro hS
  refine Dr.all hreg hrs (by simp) ?_
  simp only [allN, ho]
  rw [hS']
  exact h _ (fun st' h1 h2 => ⟨h1, h2 h1⟩)

theorem Still.ofOp {i : Nat} {o : Oper} {d : Nat} {m : MV} (ho : ops[i]? = some o) (hd : o.dst = some d) (hpk : pureK o.op = true) (hns : noStr P o.op = true) (hg : o.guard = none) (hm : lk st.v d = .sh m)
    (h : ∀ K' : St → Prop, (∀ st', lk st'.v d = .sh m → K' st') → opP P nt [] o st K') : Still P nt ops st i := by
  have hx := h (fun st' => lk st'.v d = .sh m) (fun _ h => h)
  have hx' : dOk o.dst nt ∧ pureP P st o.op (fun ct => (fun st' : St => lk st'.v d = .sh m) (putO st o.dst ct)) := by
    exact opP_pure hpk hns hx
  simp only [Still, ho, hd, StillO, wantP, hg]
  refine ⟨by have := hx'.1; rw [hd] at this; exact this, hpk, by rw [hm]; rfl, ?_⟩
  have e : (fun ct => (fun st' : St => lk st'.v d = .sh m) (putO st o.dst ct)) = (fun c => c = lk st.v d) := by
    funext ct
    rw [hd, hm]
    simp only [putO, St.put, lk_pt, if_true]
    cases ct <;> simp [Ct.refs]
    · split <;> simp
    · split <;> simp
  rw [← e]; exact hx'.2

theorem PW.sdrawQ {Q : PX → St → Prop} (fz : List Nat) {id : Nat} {ops : Array Oper} {y : Code} (hm : P.follows .mixedOrders = true) (hreg : regOk ops = true) (h : ∀ K : St → Prop, (∀ st', PW P nt y st' Q → K st') → DrS P nt fz ops [] [] st K) : PW P nt (.seq (.region id ops true) y) st Q :=
  PW.sdraw fz hm hreg (fun K hK => h K hK trivial)

theorem PW.drawQ {Q : PX → St → Prop} (fz : List Nat) {id : Nat} {ops : Array Oper} (hm : P.follows .mixedOrders = true) (hreg : regOk ops = true) (h : ∀ K : St → Prop, (∀ st', Q .normal st' → K st') → DrS P nt fz ops [] [] st K) : PW P nt (.region id ops true) st Q :=
  PW.dreg fz hm hreg (h (fun st' => Q .normal st') (fun _ h => h) trivial)


theorem drop_get {i : Nat} {o : Oper} {r : List Oper} (h : ops.toList.drop i = o :: r) : ops[i]? = some o := by
  have := congrArg (fun l => l[0]?) h
  simpa [List.getElem?_drop] using this

theorem DrS.takeR {L S : List Nat} {K : St → Prop} (i : Nat) {od : Option Tmp} {op : Op} {ty : TypeId} {pos : String} {after : Array Edge} {r : List Oper} {d : Nat} (hr : memN (nextOf ops L) i = true) (ho : ops.toList.drop i = ⟨od, op, ty, pos, after, none⟩ :: r) (hd : od = some d) (hiL : memN L i = false) (hk : okTake ops S i = true) (hdd : isShD (lk st.v d) = true) (hns : noStr P op = true)
    (h : ∀ K' : St → Prop, (∀ st', Still P nt ops st' i → DrS P nt fz ops (i :: L) (i :: S) st' K → K' st') → opP P nt fz ⟨od, op, ty, "", #[], none⟩ st K') : DrS P nt fz ops L S st K := DrS.take i (drop_get ho) hd hiL hk hdd hns rfl h

/-- An unguarded operation is next, and it alone. -/
theorem DrS.oneU {L S : List Nat} {K : St → Prop} (j : Nat) {od : Option Tmp} {op : Op} {ty : TypeId} {pos : String} {after : Array Edge} {r : List Oper} {S' : List Nat} (hreg : regOk ops = true) (hrs : nextOf ops L = [j]) (ho : ops.toList.drop j = ⟨od, op, ty, pos, after, none⟩ :: r) (hS' : restOf ops S j = S')
    (h : ∀ K' : St → Prop, (∀ st', stillAll P nt ops st' S' → DrS P nt fz ops (j :: L) S' st' K → K' st') → opP P nt fz ⟨od, op, ty, "", #[], none⟩ st K') : DrS P nt fz ops L S st K :=
  DrS.one j hreg hrs (drop_get ho) hS' (fun K' hK => by unfold gdP; exact h K' hK)

theorem Still.ofR {i : Nat} {od : Option Tmp} {op : Op} {ty : TypeId} {pos : String} {after : Array Edge} {r : List Oper} {d : Nat} {m : MV} (ho : ops.toList.drop i = ⟨od, op, ty, pos, after, none⟩ :: r) (hd : od = some d) (hpk : pureK op = true) (hns : noStr P op = true) (hm : lk st.v d = .sh m)
    (h : ∀ K' : St → Prop, (∀ st', lk st'.v d = .sh m → K' st') → opP P nt [] ⟨od, op, ty, "", #[], none⟩ st K') : Still P nt ops st i := Still.ofOp (drop_get ho) hd hpk hns rfl hm h


def upto : Nat → List Nat
  | 0 => []
  | n + 1 => n :: upto n

/-- From here on every order comes to K; the first n operations are done. -/
def DrN (P : Program) (nt : Nat) (fz : List Nat) (ops : Array Oper) (n : Nat) (rest : List Oper) (S : List Nat) (st : St) (K : St → Prop) : Prop := ops.toList.drop n = rest → DrS P nt fz ops (upto n) S st K

theorem upto_mem : ∀ (n i : Nat), i ∈ upto n ↔ i < n
  | 0, i => by simp [upto]
  | n + 1, i => by
    simp only [upto, List.mem_cons, upto_mem n i]; omega

theorem DrN.start {K : St → Prop} {rest : List Oper} (hr : ops.toList = rest) (h : DrN P nt fz ops 0 rest [] st K) : DrS P nt fz ops [] [] st K := h (by simpa using hr)

theorem DrN.done {n : Nat} {S : List Nat} {K : St → Prop} (hreg : regOk ops = true) (hK : K st) : DrN P nt fz ops n [] S st K := by
  intro hd
  have hn : ops.size ≤ n := by
    have := congrArg List.length hd
    simp at this; omega
  exact DrS.done hreg (List.all_eq_true.2 (fun i hi => memN_iff.2 ((upto_mem n i).2 (by have := List.mem_range.1 hi; omega)))) hK

theorem DrN.take {n : Nat} {od : Option Tmp} {op : Op} {ty : TypeId} {pos : String} {after : Array Edge} {r : List Oper} {S : List Nat} {K : St → Prop} {d : Nat} (hpk : pureK op = true) (hd : od = some d) (hk : okTake ops S n = true) (hdd : isShD (lk st.v d) = true) (hns : noStr P op = true)
    (h : ∀ K' : St → Prop, (∀ st', Still P nt ops st' n → DrN P nt fz ops (n + 1) r (n :: S) st' K → K' st') → opP P nt fz ⟨od, op, ty, "", #[], none⟩ st K') : DrN P nt fz ops n (⟨od, op, ty, pos, after, none⟩ :: r) S st K := by
  intro hdr
  refine DrS.take n (drop_get hdr) hd ?_ hk hdd hns rfl (fun K' hK => h K' (fun st' h1 h2 => hK st' h1 (h2 ?_)))
  · cases hm : memN (upto n) n with
    | false => rfl
    | true => have := (upto_mem n n).1 (memN_iff.1 hm); omega
  · rw [← List.drop_drop, hdr]; rfl

theorem DrN.one {n : Nat} {od : Option Tmp} {op : Op} {ty : TypeId} {pos : String} {after : Array Edge} {r : List Oper} {S : List Nat} {K : St → Prop} (S' : List Nat) (hreg : regOk ops = true) (hrs : nextOf ops (upto n) = [n]) (hS' : restOf ops S n = S')
    (h : ∀ K' : St → Prop, (∀ st', stillAll P nt ops st' S' → DrN P nt fz ops (n + 1) r S' st' K → K' st') → opP P nt fz ⟨od, op, ty, "", #[], none⟩ st K') : DrN P nt fz ops n (⟨od, op, ty, pos, after, none⟩ :: r) S st K := by
  intro hdr
  refine DrS.oneU n hreg hrs hdr hS' (fun K' hK => h K' (fun st' h1 h2 => hK st' h1 (h2 ?_)))
  rw [← List.drop_drop, hdr]; rfl

/-- The last one of a region that comes behind all others. -/
theorem DrN.last {n : Nat} {od : Option Tmp} {op : Op} {ty : TypeId} {pos : String} {after : Array Edge} {S : List Nat} {K : St → Prop} (hreg : regOk ops = true) (hrs : nextOf ops (upto n) = [n]) (hS' : restOf ops S n = [])
    (h : ∀ K' : St → Prop, (∀ st', K st' → K' st') → opP P nt fz ⟨od, op, ty, "", #[], none⟩ st K') : DrN P nt fz ops n [⟨od, op, ty, pos, after, none⟩] S st K :=
  DrN.one [] hreg hrs hS' (fun K' hK => h K' (fun st' h1 => hK st' trivial (DrN.done hreg h1)))

theorem PW.sdrawN {Q : PX → St → Prop} (fz : List Nat) {id : Nat} {ops : Array Oper} {y : Code} (hm : P.follows .mixedOrders = true) (hreg : regOk ops = true) (h : ∀ K : St → Prop, (∀ st', PW P nt y st' Q → K st') → DrN P nt fz ops 0 ops.toList [] st K) : PW P nt (.seq (.region id ops true) y) st Q :=
  PW.sdrawQ fz hm hreg (fun K hK => DrN.start rfl (h K hK))

theorem PW.drawN {Q : PX → St → Prop} (fz : List Nat) {id : Nat} {ops : Array Oper} (hm : P.follows .mixedOrders = true) (hreg : regOk ops = true) (h : ∀ K : St → Prop, (∀ st', Q .normal st' → K st') → DrN P nt fz ops 0 ops.toList [] st K) : PW P nt (.region id ops true) st Q :=
  PW.drawQ fz hm hreg (fun K hK => DrN.start rfl (h K hK))

end
end Go.Pv
