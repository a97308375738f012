/- A library of this session: regions whose order is open: the rules. -/
import Derived.Test.YtoakchnegkmepaaM23
set_option linter.unusedVariables false
set_option linter.unusedSimpArgs false
namespace Go.Pv

def isSel : Op → Bool
  | .select .. => true
  | _ => false

def bindsOn (o : Oper) (i : Nat) : Bool := o.after.any fun e => Region.binds .any e && e.on == i

/-- What a region must keep to. -/
def regOk (ops : Array Oper) : Bool :=
  (List.range ops.size).all fun j => match ops[j]? with
    | none => false
    | some o => (o.after.all fun e => !Region.binds .any e || decide (e.on < j)) && !isSel o.op &&
      (List.range ops.size).all fun i => match ops[i]? with
        | none => false
        | some oi => !pureK oi.op || (match oi.dst with
          | none => true
          | some d => !(o.looksAt ops).contains d || (i != j && bindsOn o i))

def okTake (ops : Array Oper) (S : List Nat) (i : Nat) : Bool :=
  match ops[i]? with
  | none => false
  | some oi => match oi.dst with
    | none => false
    | some d => (i :: S).all (fun j => match ops[j]? with
      | none => true
      | some o => !(o.looksAt ops).contains d) && S.all (fun j => dstN ops j != some d) && pureK oi.op

section
variable {P : Program} {γ : List Nat} {ω : Own} {w : World} {nt : Nat} {st st' : St} {a : Act} {ops : Array Oper}

theorem regOk_get (h : regOk ops = true) {j : Nat} {o : Oper} (ho : ops[j]? = some o) : (∀ e ∈ o.after, Region.binds .any e = true → e.on < j) ∧ (∀ cs b, o.op ≠ .select cs b) ∧
    ∀ i oi d, ops[i]? = some oi → pureK oi.op = true → oi.dst = some d → d ∈ o.looksAt ops → i ≠ j ∧ ∃ e ∈ o.after, Region.binds .any e = true ∧ e.on = i := by
  have hj : j < ops.size := (Array.getElem?_eq_some_iff.1 ho).1
  have h1 := List.all_eq_true.1 h j (List.mem_range.2 hj)
  simp only [ho, Bool.and_eq_true] at h1
  obtain ⟨⟨h1, h2⟩, h3⟩ := h1
  refine ⟨fun e he hb => ?_, fun cs b e => ?_, fun i oi d hi hp hd hm => ?_⟩
  · have := Array.all_eq_true_iff_forall_mem.1 h1 e he
    simpa [hb] using this
  · rw [e] at h2; simp [isSel] at h2
  · have hil : i < ops.size := (Array.getElem?_eq_some_iff.1 hi).1
    have := List.all_eq_true.1 h3 i (List.mem_range.2 hil)
    simp only [hi, hp, hd, Bool.not_true, Bool.false_or, Bool.or_eq_true, Bool.not_eq_true', Bool.and_eq_true] at this
    rcases this with h4 | ⟨h4, h5⟩
    · rw [List.contains_iff_mem.2 hm] at h4; simp at h4
    · obtain ⟨e, he, hb⟩ := Array.any_eq_true'.1 h5
      simp only [Bool.and_eq_true, beq_iff_eq] at hb
      exact ⟨by simpa using h4, e, he, hb.1, hb.2⟩

structure Inv (ops : Array Oper) (L D : List Nat) (listed : Array Bool) : Prop where
  size : listed.size = ops.size
  mem : ∀ i, i < ops.size → (listed.getD i false = true ↔ i ∈ L ∧ i ∉ D)

def un (listed : Array Bool) : Nat := ((List.range listed.size).filter fun i => !(listed.getD i false)).length

theorem filter_lt {p q : Nat → Bool} : ∀ {l : List Nat} {j : Nat}, j ∈ l → p j = true → q j = false → (∀ i, q i = true → p i = true) → (l.filter q).length < (l.filter p).length
  | [], j, h, _, _, _ => by simp at h
  | x :: r, j, h, hp, hq, hi => by
    have hle : ∀ l : List Nat, (l.filter q).length ≤ (l.filter p).length := by
      intro l
      induction l with
      | nil => simp
      | cons y t ih =>
        simp only [List.filter_cons]
        cases hqy : q y with
        | true => simp [hi y hqy]; exact ih
        | false => cases p y <;> simp <;> omega
    rcases List.mem_cons.1 h with e | e
    · subst e
      simp only [List.filter_cons, hp, hq]
      have := hle r
      simp; omega
    · have := filter_lt e hp hq hi
      simp only [List.filter_cons]
      cases hqx : q x with
      | true => simp [hi x hqx]; exact this
      | false => cases p x <;> simp <;> omega

theorem getD_lt {listed : Array Bool} {i : Nat} (h : i < listed.size) (d e : Bool) : listed.getD i d = listed.getD i e := by
  simp [Array.getD_eq_getD_getElem?, h]

theorem un_set {listed : Array Bool} {i : Nat} (h : i < listed.size) (hu : listed.getD i false = false) : un (listed.setIfInBounds i true) < un listed := by
  unfold un
  have hs : (listed.setIfInBounds i true).size = listed.size := by simp
  rw [hs]
  refine filter_lt (j := i) (List.mem_range.2 h) (by simp [hu]) (by simp [h]) (fun k hk => ?_)
  by_cases e : i = k
  · subst e; simp [h] at hk
  · rw [getD_set_ne false e] at hk; exact hk

theorem Inv.set {L D : List Nat} {listed : Array Bool} (h : Inv ops L D listed) {k : Nat} {L' D' : List Nat} (hk : k ∈ L') (hk' : k ∉ D') (hm : ∀ i, i ≠ k → ((i ∈ L' ∧ i ∉ D') ↔ (i ∈ L ∧ i ∉ D))) : Inv ops L' D' (listed.setIfInBounds k true) := by
  refine ⟨by simp [h.size], fun i hi => ?_⟩
  by_cases e : k = i
  · subst e
    have : k < listed.size := by rw [h.size]; exact hi
    simp [this, hk, hk']
  · rw [getD_set_ne false e, h.mem i hi, hm i (fun x => e x.symm)]

/-- What an operation that is ready looks at does not wait. -/
theorem ready_apart (hreg : regOk ops = true) {L D : List Nat} {listed : Array Bool} (hI : Inv ops L D listed) (hst : ∀ i ∈ D, Still P nt ops st i) {k : Nat} (hk : k ∈ Region.ready .any ops listed) {o : Oper} (ho : ops[k]? = some o) :
    ∀ t ∈ o.looksAt ops, memN (dss ops D) t = false := by
  intro t ht
  cases hm : memN (dss ops D) t with
  | false => rfl
  | true =>
    exfalso
    obtain ⟨i, hi, hd⟩ := dss_mem.1 hm
    obtain ⟨oi, d, hoi, hdi, hso⟩ := (hst i hi).get
    have : d = t := by simp [dstN, hoi, hdi] at hd; exact hd
    subst this
    obtain ⟨_, e, he, hb, hon⟩ := (regOk_get hreg ho).2.2 i oi d hoi hso.2.1 hdi ht
    obtain ⟨hun, o', ho', hall⟩ := mem_ready.1 hk
    rw [ho] at ho'; injection ho' with ho'; subst ho'
    have h1 := hall e he hb
    rw [hon] at h1
    have hil : i < ops.size := (Array.getElem?_eq_some_iff.1 hoi).1
    exact ((hI.mem i hil).1 h1).2 hi

theorem still_sh {D : List Nat} (hst : ∀ i ∈ D, Still P nt ops st i) : ∀ s, memN (dss ops D) s = true → isShD (lk st.v s) = true := by
  intro s hs
  obtain ⟨i, hi, hd⟩ := dss_mem.1 hs
  obtain ⟨oi, d, hoi, hdi, hso⟩ := (hst i hi).get
  have : d = s := by simp [dstN, hoi, hdi] at hd; exact hd
  subst this
  exact hso.2.2.1

/-- What waits is done. -/
theorem pend_exec (hreg : regOk ops = true) {L D : List Nat} {listed : Array Bool} (hI : Inv ops L D listed) (hsrt : Srt ops D) (hst : ∀ i ∈ D, Still P nt ops st i) {k : Nat} (hkD : k ∈ D) (hk : k ∈ Region.ready .any ops listed)
    (h : Rel γ ω w nt ⟨killL (dss ops D) st.v, st.B⟩ a) (Q : Exit → Act → World → Prop) :
    wpOp P ops Q k (fun a' w' => w' = w ∧ Rel γ ω w nt ⟨killL (dss ops (D.filter (· != k))) st.v, st.B⟩ a') a w := by
  obtain ⟨x, hRx, hA⟩ := fill D hsrt hst h
  obtain ⟨o, d, ho, hd, g1, g2, g3, g4⟩ := (hst k hkD).get
  have hl := ready_apart hreg hI hst hk ho
  have hdk : dstN ops k = some d := by simp [dstN, ho, hd]
  -- the act behind it
  have fin : ∀ v, CtRep γ ω w st x.tmps (.slot d) (lk st.v d) v → Rel γ ω w nt ⟨killL (dss ops (D.filter (· != k))) st.v, st.B⟩ (a.put o.dst v) := by
    intro v hv
    have hR2 : Rel γ ω w nt st (x.put (some d) v) := by
      have hX : Rel γ ω w nt ⟨killL [d] st.v, st.B⟩ x := hRx.less (less_kill (fun s hs => by
        have : s = d := by simpa [memN, eq_comm] using hs
        subst this; exact g3)) (Ag.refl _ _)
      have hdead : lk (killL [d] st.v) d = .dead := by rw [lk_killL]; simp [memN]
      have hv' : CtRep γ ω w ⟨killL [d] st.v, st.B⟩ x.tmps (.slot d) (lk st.v d) v := by
        cases hc : lk st.v d with
        | sh m => rw [hc] at hv; exact hv
        | dead => trivial
        | _ => rw [hc] at g3; simp [isShD] at g3
      refine (hX.put g1 hv').ext rfl (fun s => ?_)
      rw [lk_put_dead hdead g3]
      by_cases e : d = s
      · subst e; simp
      · simp only [e, if_false]; rw [lk_killL]; simp [memN, e]
    refine hR2.less (ds := dss ops (D.filter (· != k))) (less_kill (fun s hs => ?_)) ?_
    · obtain ⟨i, hi, hdi⟩ := dss_mem.1 hs
      exact still_sh hst s (dss_mem.2 ⟨i, (List.mem_filter.1 hi).1, hdi⟩)
    · rw [hd]
      refine ⟨hA.defers, by simp [Act.put, hA.size], fun s hs => ?_⟩
      simp only [Act.put, Array.getElem?_setIfInBounds, hA.size]
      by_cases e : d = s
      · simp [e]
      · simp only [e, if_false]
        refine hA.same s ?_
        cases hm : memN (dss ops D) s with
        | false => rfl
        | true =>
          obtain ⟨i, hi, hdi⟩ := dss_mem.1 hm
          have hne : i ≠ k := fun e2 => by subst e2; rw [hdk] at hdi; injection hdi with hdi; exact e hdi
          rw [dss_mem.2 ⟨i, List.mem_filter.2 ⟨hi, by simpa using hne⟩, hdi⟩] at hs; simp at hs
  unfold wpOp
  simp only [ho]
  -- is it wanted?
  have hwant : ∀ b, wantP ops st o = some b → Region.wanted o (yielded ops a.tmps) = b := by
    intro b hb
    unfold wantP at hb
    cases hg : o.guard with
    | none => rw [hg] at hb; simp at hb; subst hb; simp [Region.wanted, hg]
    | some y =>
      obtain ⟨j, want⟩ := y
      rw [hg] at hb
      simp only at hb
      split at hb
      · rename_i d0 hd0
        split at hb
        · rename_i b0 hb0
          injection hb with hb
          have hr : Rep γ ω w (.bool b0) (x.eval (.tmp d0)) := slot_rep hRx d0 hb0
          have hv : x.tmps.getD d0 undef = .bool b0 := Val.bool (.inl hr)
          rw [hA.getD (hl d0 (guard_looks hg hd0))] at hv
          have hsome : a.tmps[d0]? = some (.bool b0) := by
            rw [Array.getD_eq_getD_getElem?] at hv
            cases hq : a.tmps[d0]? with
            | none => rw [hq] at hv; simp [undef] at hv
            | some u => rw [hq] at hv; simp at hv; rw [hv]
          have hy : yielded ops a.tmps j = some b0 := by
            unfold yielded
            rw [hd0]
            simp [hsome]
          simp [Region.wanted, hg, hy, ← hb]
        · rename_i hb0
          injection hb with hb
          have hr : Rep γ ω w (.tup []) (x.eval (.tmp d0)) := slot_rep hRx d0 hb0
          have hv : x.tmps.getD d0 undef = .tuple #[] := rep_tup0 hr
          rw [hA.getD (hl d0 (guard_looks hg hd0))] at hv
          have hy : yielded ops a.tmps j = none := by
            unfold yielded
            rw [hd0]
            simp only [Option.bind_some]
            rw [Array.getD_eq_getD_getElem?] at hv
            cases hq : a.tmps[d0]? with
            | none => rfl
            | some u => rw [hq] at hv; simp only [Option.getD_some] at hv; rw [hv]
          simp [Region.wanted, hg, hy, ← hb]
        · exact absurd hb (by simp)
      · exact absurd hb (by simp)
  split at g4
  · rename_i hw1
    rw [if_pos (hwant _ hw1)]
    refine .inl ?_
    obtain ⟨c, v, q1, q2, q3⟩ := pure_ok hRx g4
    have he : execOp x.eval o = execOp a.eval o := execOp_congr o (regOk_get hreg ho).2.1 (fun z hz => hA.eval z (fun t e => hl t (operand_looks (by rw [← e]; exact hz))))
    unfold Oper.wp
    rw [← he, q1, Oper.upon_value]
    exact ⟨rfl, fin v (by rw [← q3]; exact q2 _)⟩
  · rename_i hw1
    rw [if_neg (by rw [hwant _ hw1]; simp)]
    exact ⟨by trivial, fin undef (by rw [g4]; exact rep_undef)⟩
  · exact g4.elim

theorem Srt.filter {D : List Nat} (p : Nat → Bool) (h : Srt ops D) : Srt ops (D.filter p) := by
  induction D with
  | nil => exact h
  | cons i r ih =>
    obtain ⟨h1, h2, h3⟩ := h
    rw [List.filter_cons]
    split
    · refine ⟨fun j hj => h1 j ?_, fun j hj => h2 j (List.mem_filter.1 hj).1, ih h3⟩
      rcases List.mem_cons.1 hj with e | e
      · rw [e]; simp
      · exact List.mem_cons_of_mem _ (List.mem_filter.1 e).1
    · exact ih h3

/-- From here on every order comes to K. L: what is done; S: what of it may wait still. -/
def Dr (P : Program) (nt : Nat) (fz : List Nat) (ops : Array Oper) (L S : List Nat) (st : St) (K : St → Prop) : Prop :=
  ∀ (γ : List Nat) (ω : Own) (w : World) (a : Act) (D : List Nat) (listed : Array Bool) (fuel : Nat) (Q : Exit → Act → World → Prop), Inv ops L D listed → (∀ i ∈ D, i ∈ S ∧ i ∈ L) → Srt ops D → (∀ i ∈ D, Still P nt ops st i) → un listed ≤ fuel →
    Rel γ ω w nt ⟨killL (dss ops D) st.v, st.B⟩ a → (∀ γ' ω' w' st' a', Chg NotOuter γ ω w γ' ω' w' → Rel γ' ω' w' nt st' a' → K st' → Q .normal a' w') → wpAny P .any ops Q fuel listed a w

theorem un_zero {listed : Array Bool} (h : un listed = 0) {i : Nat} (hi : i < listed.size) : listed.getD i false = true := by
  unfold un at h
  have h1 := List.eq_nil_of_length_eq_zero h
  rw [List.filter_eq_nil_iff] at h1
  have := h1 i (List.mem_range.2 hi)
  simpa using this

theorem ready_nil (hreg : regOk ops = true) {listed : Array Bool} (hs : listed.size = ops.size) (hr : Region.ready .any ops listed = []) : ∀ i, i < ops.size → listed.getD i false = true := by
  intro i
  induction i using Nat.strongRecOn with
  | _ i ih =>
    intro hi
    cases hl : listed.getD i false with
    | true => rfl
    | false =>
      exfalso
      have : i ∈ Region.ready .any ops listed := by
        refine mem_ready.2 ⟨by rw [getD_lt (by omega) true false]; exact hl, ops[i], by simp [hi], fun e he hb => ?_⟩
        have hlt := (regOk_get hreg (j := i) (o := ops[i]) (by simp [hi])).1 e he hb
        exact ih e.on hlt (by omega)
      rw [hr] at this; simp at this

theorem ready_un {listed : Array Bool} (hs : listed.size = ops.size) {k : Nat} (hk : k ∈ Region.ready .any ops listed) : k < ops.size ∧ listed.getD k false = false := by
  obtain ⟨h1, o, ho, _⟩ := mem_ready.1 hk
  have hlt : k < ops.size := (Array.getElem?_eq_some_iff.1 ho).1
  exact ⟨hlt, by rw [getD_lt (by omega) false true]; exact h1⟩

theorem Dr.done {fz L S : List Nat} {K : St → Prop} (hreg : regOk ops = true) (hL : ∀ i, i < ops.size → i ∈ L) (hK : K st) : Dr P nt fz ops L S st K := by
  intro γ ω w a D listed fuel Q hI hS hsrt hst hun h hq
  induction fuel generalizing D listed a with
  | zero =>
    have hall := fun i (hi : i < ops.size) => un_zero (Nat.le_zero.1 hun) (i := i) (by rw [hI.size]; exact hi)
    have hD : ∀ i, i ∉ D := by
      intro i hi
      obtain ⟨o, d, ho, _⟩ := (hst i hi).get
      have hlt : i < ops.size := (Array.getElem?_eq_some_iff.1 ho).1
      exact ((hI.mem i hlt).1 (hall i hlt)).2 hi
    have hD' : D = [] := List.eq_nil_iff_forall_not_mem.2 hD
    subst hD'
    have hr : Region.ready .any ops listed = [] := by
      rw [List.eq_nil_iff_forall_not_mem]
      intro k hk
      obtain ⟨h1, h2⟩ := ready_un hI.size hk
      rw [hall k h1] at h2; simp at h2
    have hR0 : Rel γ ω w nt st a := h.ext rfl (fun s => by simp only [lk_killL]; simp [dss, memN])
    exact ⟨hr, hq _ _ _ _ _ (Chg.refl _ _ _ _) hR0 hK⟩
  | succ fuel ih =>
    refine ⟨fun hr => ?_, fun k hk => ?_⟩
    · have hall := ready_nil hreg hI.size hr
      have hD : ∀ i, i ∉ D := by
        intro i hi
        obtain ⟨o, d, ho, _⟩ := (hst i hi).get
        have hlt : i < ops.size := (Array.getElem?_eq_some_iff.1 ho).1
        exact ((hI.mem i hlt).1 (hall i hlt)).2 hi
      have hD' : D = [] := List.eq_nil_iff_forall_not_mem.2 hD
      subst hD'
      have hR0 : Rel γ ω w nt st a := h.ext rfl (fun s => by simp only [lk_killL]; simp [dss, memN])
      exact hq _ _ _ _ _ (Chg.refl _ _ _ _) hR0 hK
    · obtain ⟨hlt, hu⟩ := ready_un hI.size hk
      have hkD : k ∈ D := by
        rcases Classical.em (k ∈ D) with h1 | h1
        · exact h1
        · have := (hI.mem k hlt).2 ⟨hL k hlt, h1⟩
          rw [this] at hu; simp at hu
      refine wpOp_mono (fun a' w' hh => ?_) (pend_exec hreg hI hsrt hst hkD hk h Q)
      obtain ⟨rfl, hR⟩ := hh
      exact ih _ (D.filter (· != k)) _ (hI.set (hL k hlt) (by simp) (fun i hi => by simp [hi])) (fun i hi => hS i (List.mem_filter.1 hi).1) (hsrt.filter _) (fun i hi => hst i (List.mem_filter.1 hi).1)
        (by have := un_set (by rw [hI.size]; exact hlt) hu; omega) hR

theorem Dr.takeK {fz L S : List Nat} {K : St → Prop} (i : Nat) {o : Oper} {d : Nat} (ho : ops[i]? = some o) (hd : o.dst = some d) (hiL : i ∉ L) (hk : okTake ops S i = true)
    (h : ∀ {γ : List Nat} {ω : Own} {w : World} {x : Act}, Rel γ ω w nt st x → ∃ c v, Rel γ ω w nt (st.put d c) (x.put (some d) v) ∧ stillAll P nt ops (st.put d c) (i :: S) ∧ Dr P nt fz ops (i :: L) (i :: S) (st.put d c) K) : Dr P nt fz ops L S st K := by
  intro γ ω w a D listed fuel Q hI hS hsrt hst hun hR hq
  obtain ⟨x, hRx, hA⟩ := fill D hsrt hst hR
  have hdi : dstN ops i = some d := by simp [dstN, ho, hd]
  simp only [okTake, ho, hd, Bool.and_eq_true] at hk
  obtain ⟨⟨hk1, hk2⟩, hpk⟩ := hk
  obtain ⟨c, v, hR2, hst2, hDr⟩ := h hRx
  have hst3 := stillAll_get hst2
  have hst4 : ∀ j ∈ i :: D, Still P nt ops (st.put d c) j := fun j hj => by
    rcases List.mem_cons.1 hj with e | e
    · exact hst3 j (by rw [e]; simp)
    · exact hst3 j (List.mem_cons_of_mem _ (hS j e).1)
  have hds : dss ops (i :: D) = d :: dss ops D := by simp [dss, hdi]
  refine hDr γ ω w a (i :: D) listed fuel Q ⟨hI.size, fun j hj => ?_⟩ (fun j hj => ?_) ⟨fun j hj o' d' ho' hd' => ?_, fun j hj => ?_, hsrt⟩ hst4 hun ?_ hq
  · rw [hI.mem j hj]
    simp only [List.mem_cons, not_or]
    constructor
    · rintro ⟨h1, h2⟩; exact ⟨.inr h1, fun e => hiL (e ▸ h1), h2⟩
    · rintro ⟨h1, h2, h3⟩
      rcases h1 with e | e
      · exact absurd e h2
      · exact ⟨e, h3⟩
  · rcases List.mem_cons.1 hj with e | e
    · rw [e]; simp
    · exact ⟨List.mem_cons_of_mem _ (hS j e).1, List.mem_cons_of_mem _ (hS j e).2⟩
  · rw [hdi] at hd'; injection hd' with hd'; subst hd'
    have hjS : j ∈ i :: S := by
      rcases List.mem_cons.1 hj with e | e
      · rw [e]; simp
      · exact List.mem_cons_of_mem _ (hS j e).1
    have := List.all_eq_true.1 hk1 j hjS
    simp only [ho', Bool.not_eq_true'] at this
    intro hm
    rw [List.contains_iff_mem.2 hm] at this; simp at this
  · have := List.all_eq_true.1 hk2 j (hS j hj).1
    rw [hdi]
    simpa using this
  · refine hR2.less (less_kill (still_sh hst4)) ?_
    rw [hds]
    refine ⟨hA.defers, by simp [Act.put, hA.size], fun s hs => ?_⟩
    by_cases e : d = s
    · subst e; simp [memN] at hs
    · simp only [memN, e, if_false] at hs
      simp only [Act.put]
      rw [Array.getElem?_setIfInBounds_ne e]
      exact hA.same s hs

/-- Which operations are next? -/
def nextOf (ops : Array Oper) (L : List Nat) : List Nat :=
  (List.range ops.size).filter fun j => !memN L j && (match ops[j]? with
    | some o => o.after.all fun e => !Region.binds .any e || memN L e.on
    | none => false)

def restOf (ops : Array Oper) (S : List Nat) (j : Nat) : List Nat :=
  match ops[j]? with
  | some o => S.filter fun i => !bindsOn o i
  | none => S

def allN (F : Nat → Prop) : List Nat → Prop
  | [] => True
  | [i] => F i
  | i :: r => F i ∧ allN F r

theorem allN_get {F : Nat → Prop} : ∀ {l : List Nat}, allN F l → ∀ i ∈ l, F i
  | [], _, i, hi => by simp at hi
  | [j], h, i, hi => by simp at hi; rw [hi]; exact h
  | j :: k :: r, h, i, hi => by
    rcases List.mem_cons.1 hi with e | e
    · rw [e]; exact h.1
    · exact allN_get h.2 i e

theorem Dr.all {fz L S : List Nat} {K : St → Prop} (hreg : regOk ops = true) {rs : List Nat} (hrs : nextOf ops L = rs) (hne : rs ≠ [])
    (h : allN (fun j => match ops[j]? with
      | some o => gdP P nt fz ops o st (fun st' => stillAll P nt ops st' (restOf ops S j) ∧ Dr P nt fz ops (j :: L) (restOf ops S j) st' K)
      | none => False) rs) : Dr P nt fz ops L S st K := by
  intro γ ω w a D listed fuel Q hI hS hsrt hst hun hR hq
  obtain ⟨m, hm⟩ : ∃ m, m ∈ rs := by cases rs with
    | nil => exact absurd rfl hne
    | cons m r => exact ⟨m, by simp⟩
  have hmL : m < ops.size ∧ m ∉ L := by
    rw [← hrs] at hm
    obtain ⟨h1, h2⟩ := List.mem_filter.1 hm
    refine ⟨List.mem_range.1 h1, fun e => ?_⟩
    simp [memN_iff.2 e] at h2
  have hmore : listed.getD m false = false := by
    cases hl : listed.getD m false with
    | false => rfl
    | true => exact absurd ((hI.mem m hmL.1).1 hl).1 hmL.2
  induction fuel generalizing D listed a with
  | zero =>
    have := un_zero (Nat.le_zero.1 hun) (i := m) (by rw [hI.size]; exact hmL.1)
    rw [this] at hmore; simp at hmore
  | succ fuel ih =>
    refine ⟨fun hr => ?_, fun k hk => ?_⟩
    · have := ready_nil hreg hI.size hr m hmL.1
      rw [this] at hmore; simp at hmore
    · obtain ⟨hlt, hu⟩ := ready_un hI.size hk
      have hun' : un (listed.setIfInBounds k true) ≤ fuel := by have := un_set (by rw [hI.size]; exact hlt) hu; omega
      rcases Classical.em (k ∈ D) with hkD | hkD
      · refine wpOp_mono (fun a' w' hh => ?_) (pend_exec hreg hI hsrt hst hkD hk hR Q)
        obtain ⟨rfl, hR'⟩ := hh
        have h1 : k ∈ L := (hS k hkD).2
        have hI' : Inv ops L (D.filter (· != k)) (listed.setIfInBounds k true) := hI.set h1 (by simp) (fun i hi => by simp [hi])
        refine ih _ (D.filter (· != k)) _ hI' (fun i hi => hS i (List.mem_filter.1 hi).1) (hsrt.filter _) (fun i hi => hst i (List.mem_filter.1 hi).1) hun' hR' ?_
        cases hl : (listed.setIfInBounds k true).getD m false with
        | false => rfl
        | true => exact absurd ((hI'.mem m hmL.1).1 hl).1 hmL.2
      · have hkL : k ∉ L := fun e => by
          have := (hI.mem k hlt).2 ⟨e, hkD⟩
          rw [this] at hu; simp at hu
        obtain ⟨_, o, ho, hall⟩ := mem_ready.1 hk
        have hpre : ∀ e ∈ o.after, Region.binds .any e = true → e.on ∈ L ∧ e.on ∉ D := fun e he hb => by
          have h1 := hall e he hb
          have hlt' : e.on < ops.size := by have := (regOk_get hreg ho).1 e he hb; omega
          exact (hI.mem e.on hlt').1 h1
        have hkrs : k ∈ rs := by
          rw [← hrs]
          refine List.mem_filter.2 ⟨List.mem_range.2 hlt, ?_⟩
          have h1 : memN L k = false := by
            cases hm' : memN L k with
            | false => rfl
            | true => exact absurd (memN_iff.1 hm') hkL
          simp only [h1, ho, Bool.not_false, Bool.true_and, Array.all_eq_true_iff_forall_mem, Bool.or_eq_true, Bool.not_eq_true']
          intro e he
          cases hb : Region.binds .any e with
          | false => exact .inl rfl
          | true => exact .inr (memN_iff.2 (hpre e he hb).1)
        have hg := allN_get h k hkrs
        simp only [ho] at hg
        obtain ⟨x, hRx, hA⟩ := fill D hsrt hst hR
        refine wpOp_mono (fun a' w' hh => ?_) (gd_exec ho (regOk_get hreg ho).2.1 hg hRx hA (ready_apart hreg hI hst hk ho) Q)
        obtain ⟨γ', ω', st', x', h1, h2, ⟨h3, h4⟩, h5⟩ := hh
        have hDS : ∀ i ∈ D, i ∈ restOf ops S k := fun i hi => by
          simp only [restOf, ho]
          refine List.mem_filter.2 ⟨(hS i hi).1, ?_⟩
          cases hb : bindsOn o i with
          | false => rfl
          | true =>
            obtain ⟨e, he, hb⟩ := Array.any_eq_true'.1 hb
            simp only [Bool.and_eq_true, beq_iff_eq] at hb
            exact absurd (hb.2 ▸ hi) (hpre e he hb.1).2
        have hst' : ∀ i ∈ D, Still P nt ops st' i := fun i hi => stillAll_get h3 i (hDS i hi)
        exact h4 γ' ω' w' a' D _ fuel Q (hI.set (by simp) hkD (fun i hi => by simp [hi])) (fun i hi => ⟨hDS i hi, List.mem_cons_of_mem _ (hS i hi).2⟩) hsrt hst' hun' (h2.less (less_kill (still_sh hst')) h5) (fun γ2 ω2 w2 st2 a2 g1 g2 g3 => hq _ _ _ _ _ (h1.trans g1) g2 g3)


/-- A region whose order is open. -/
theorem PW.draw {Q : PX → St → Prop} (fz keep : List Nat) {id : Nat} (hm : P.follows .mixedOrders = true) (hreg : regOk ops = true) (h : Dr P nt fz ops [] [] st (fun st' => Q .normal (st'.keep keep))) : PW P nt (.region id ops true) st Q := by
  intro γ ω w a R hr hk
  refine wp_region_any hm ?_
  have hc : Chg (fun _ => False) γ ω w γ ω { w with drawn := w.drawn + 1 } := ⟨rfl, rfl, rfl, Nat.le_refl _, fun _ _ h => h, fun _ _ h => ⟨rfl, h⟩, fun _ _ _ h _ => ⟨rfl, h⟩⟩
  have hr' : Rel γ ω { w with drawn := w.drawn + 1 } nt st a := hr.grow hc hr.lt
  refine h γ ω _ a [] _ ops.size R ⟨by simp, fun i hi => ?_⟩ (by simp) trivial (by simp) ?_ (hr'.ext rfl (fun s => by simp only [lk_killL]; simp [dss, memN])) (fun γ' ω' w' st' a' h1 h2 h3 => ?_)
  · simp [hi]
  · have hs : (Array.replicate ops.size false).size = ops.size := by simp
    unfold un
    rw [hs]
    exact Nat.le_trans (List.length_filter_le _ _) (by simp)
  · exact hk .normal _ _ _ _ _ ((hc.mono (fun _ h => h.elim)).trans h1) (h2.keep keep) h3

end
end Go.Pv
