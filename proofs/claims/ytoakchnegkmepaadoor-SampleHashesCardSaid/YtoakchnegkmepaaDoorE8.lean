/- The library of this work, part E8: regions whose order is open, by values. -/
import Derived.Test.YtoakchnegkmepaaDoorE7
set_option linter.unusedVariables false
set_option linter.unusedSimpArgs false
namespace Go.Pv

section
variable {P : Program} {nt : Nat} {ops : Array Oper} {st : St} {γ : List Nat} {ω : Own} {w : World}

/-- An operation whose value stands fast. -/
def RegV (P : Program) (ops : Array Oper) (x : Act) (i : Nat) : Prop :=
  ∃ o d v, ops[i]? = some o ∧ o.dst = some d ∧ pureK o.op = true ∧ x.tmps[d]? = some v ∧ (Region.wanted o (yielded ops x.tmps) = true → ∀ w', (execOp x.eval o).run P w' = .ok (.value v) w') ∧ (Region.wanted o (yielded ops x.tmps) = false → v = undef)

def Apt (ops : Array Oper) (S R : List Nat) : Prop := (∀ i ∈ R, ∀ j ∈ S, ∀ o d, ops[i]? = some o → dstN ops j = some d → d ∉ o.looksAt ops) ∧ (∀ i ∈ R, ∀ j ∈ S, ∀ d, dstN ops i = some d → dstN ops j ≠ some d)

theorem RegV.put {x : Act} {i : Nat} (hreg : regOk ops = true) (h : RegV P ops x i) {e : Nat} {v : Value} (h1 : ∀ o, ops[i]? = some o → e ∉ o.looksAt ops) (h2 : dstN ops i ≠ some e) : RegV P ops (x.put (some e) v) i := by
  obtain ⟨o, d, u, ho, hd, hk, hu, hw, hn⟩ := h
  have hne : e ≠ d := fun q => h2 (by simp [dstN, ho, hd, q])
  have hlk : ∀ d', some e = some d' → d' ∉ o.looksAt ops := fun d' q => by injection q with q; subst q; exact h1 o ho
  have e1 := wanted_put (ops := ops) o x (some e) v hlk
  have e2 := execOp_put (ops := ops) o (regOk_get hreg ho).2.1 x (some e) v hlk
  refine ⟨o, d, u, ho, hd, hk, ?_, fun hh w' => ?_, fun hh => hn (by rw [← e1]; exact hh)⟩
  · simp only [Act.put]; rw [Array.getElem?_setIfInBounds_ne hne]; exact hu
  · rw [e2]; exact hw (by rw [← e1]; exact hh) w'

theorem want_ok {x : Act} (h : Rel γ ω w nt st x) {o : Oper} {b : Bool} (hb : wantP ops st o = some b) : Region.wanted o (yielded ops x.tmps) = b := by
  unfold wantP at hb
  cases hg : o.guard with
  | none => rw [hg] at hb; simp at hb; subst hb; simp [Region.wanted, hg]
  | some y =>
    obtain ⟨j, want⟩ := y
    rw [hg] at hb
    simp only at hb
    split at hb
    · rename_i d0 hd0
      split at hb
      · rename_i b0 hb0
        injection hb with hb
        have hr : Rep γ ω w (.bool b0) (x.eval (.tmp d0)) := slot_rep h d0 hb0
        have hv : x.tmps.getD d0 undef = .bool b0 := Val.bool (.inl hr)
        have hsome : x.tmps[d0]? = some (.bool b0) := by
          rw [Array.getD_eq_getD_getElem?] at hv
          cases hq : x.tmps[d0]? with
          | none => rw [hq] at hv; simp [undef] at hv
          | some u => rw [hq] at hv; simp at hv; rw [hv]
        have hy : yielded ops x.tmps j = some b0 := by
          unfold yielded
          rw [hd0]
          simp [hsome]
        simp [Region.wanted, hg, hy, ← hb]
      · rename_i hb0
        injection hb with hb
        have hr : Rep γ ω w (.tup []) (x.eval (.tmp d0)) := slot_rep h d0 hb0
        have hv : x.tmps.getD d0 undef = .tuple #[] := rep_tup0 hr
        have hy : yielded ops x.tmps j = none := by
          unfold yielded
          rw [hd0]
          simp only [Option.bind_some]
          rw [Array.getD_eq_getD_getElem?] at hv
          cases hq : x.tmps[d0]? with
          | none => rfl
          | some u => rw [hq] at hv; simp only [Option.getD_some] at hv; rw [hv]
        simp [Region.wanted, hg, hy, ← hb]
      · exact absurd hb (by simp)
    · exact absurd hb (by simp)

/-- What waits: its place, its slot. -/
theorem ready_apart2 (hreg : regOk ops = true) {L D : List Nat} {listed : Array Bool} (hI : Inv ops L D listed) (hst : ∀ i ∈ D, ∃ o d, ops[i]? = some o ∧ o.dst = some d ∧ pureK o.op = true) {k : Nat} (hk : k ∈ Region.ready .any ops listed) {o : Oper} (ho : ops[k]? = some o) :
    ∀ t ∈ o.looksAt ops, memN (dss ops D) t = false := by
  intro t ht
  cases hm : memN (dss ops D) t with
  | false => rfl
  | true =>
    exfalso
    obtain ⟨i, hi, hd⟩ := dss_mem.1 hm
    obtain ⟨oi, d, hoi, hdi, hso⟩ := hst i hi
    have : d = t := by simp [dstN, hoi, hdi] at hd; exact hd
    subst this
    obtain ⟨_, e, he, hb, hon⟩ := (regOk_get hreg ho).2.2 i oi d hoi hso hdi ht
    obtain ⟨hun, o', ho', hall⟩ := mem_ready.1 hk
    rw [ho] at ho'; injection ho' with ho'; subst ho'
    have h1 := hall e he hb
    rw [hon] at h1
    have hil : i < ops.size := (Array.getElem?_eq_some_iff.1 hoi).1
    exact ((hI.mem i hil).1 h1).2 hi

/-- Those who wait. -/
structure Wt (P : Program) (nt : Nat) (ops : Array Oper) (st : St) (x : Act) (D S R : List Nat) : Prop where
  reg : ∀ i ∈ D, i ∈ R → RegV P ops x i
  still : ∀ i ∈ D, i ∉ R → i ∈ S ∧ Still P nt ops st i
  apt : Apt ops S R

theorem Wt.get {x : Act} {D S R : List Nat} (h : Wt P nt ops st x D S R) : ∀ i ∈ D, ∃ o d, ops[i]? = some o ∧ o.dst = some d ∧ pureK o.op = true := by
  intro i hi
  rcases Classical.em (i ∈ R) with hr | hr
  · obtain ⟨o, d, v, h1, h2, h3, _⟩ := h.reg i hi hr
    exact ⟨o, d, h1, h2, h3⟩
  · obtain ⟨o, d, h1, h2, h3⟩ := (h.still i hi hr).2.get
    exact ⟨o, d, h1, h2, h3.2.1⟩

theorem ag_done {x a : Act} {D : List Nat} {k d : Nat} {v : Value} (hA : Ag (dss ops D) x a) (hdk : dstN ops k = some d) (hx : x.tmps[d]? = some v) : Ag (dss ops (D.filter (· != k))) x (a.put (some d) v) := by
  refine ⟨hA.defers, by simp [Act.put, hA.size], fun s hs => ?_⟩
  simp only [Act.put]
  by_cases e : d = s
  · subst e
    have hlt : d < x.tmps.size := (Array.getElem?_eq_some_iff.1 hx).1
    rw [Array.getElem?_setIfInBounds_self, if_pos (by rw [← hA.size]; exact hlt)]
    exact hx
  · rw [Array.getElem?_setIfInBounds_ne e]
    refine hA.same s ?_
    cases hm : memN (dss ops D) s with
    | false => rfl
    | true =>
      obtain ⟨i, hi, hdi⟩ := dss_mem.1 hm
      have hne : i ≠ k := fun e2 => by subst e2; rw [hdk] at hdi; injection hdi with hdi; exact e hdi
      rw [dss_mem.2 ⟨i, List.mem_filter.2 ⟨hi, by simpa using hne⟩, hdi⟩] at hs; simp at hs

/-- One who waits comes up. -/
theorem pend2 (hreg : regOk ops = true) {L D S R : List Nat} {listed : Array Bool} (hI : Inv ops L D listed) {x a : Act} (hW : Wt P nt ops st x D S R) {k : Nat} (hkD : k ∈ D) (hk : k ∈ Region.ready .any ops listed)
    (h : Rel γ ω w nt st x) (hA : Ag (dss ops D) x a) (Q : Exit → Act → World → Prop) :
    wpOp P ops Q k (fun a' w' => w' = w ∧ ∃ x', Rel γ ω w nt st x' ∧ Wt P nt ops st x' (D.filter (· != k)) S R ∧ Ag (dss ops (D.filter (· != k))) x' a') a w := by
  have hget := hW.get
  obtain ⟨o, d, ho, hd, hpk⟩ := hget k hkD
  have hl := ready_apart2 hreg hI hget hk ho
  have hdk : dstN ops k = some d := by simp [dstN, ho, hd]
  have hwa : Region.wanted o (yielded ops a.tmps) = Region.wanted o (yielded ops x.tmps) := by
    unfold Region.wanted
    cases hg : o.guard with
    | none => rfl
    | some y =>
      obtain ⟨j, want⟩ := y
      have : yielded ops a.tmps j = yielded ops x.tmps j := by
        unfold yielded
        cases hd0 : (ops[j]?).bind (·.dst) with
        | none => rfl
        | some d0 =>
          simp only [Option.bind_some]
          rw [hA.same d0 (hl d0 (guard_looks hg hd0))]
      simp only [this]
  have hex : execOp x.eval o = execOp a.eval o := execOp_congr o (regOk_get hreg ho).2.1 (fun z hz => hA.eval z (fun t e => hl t (operand_looks (by rw [← e]; exact hz))))
  have sub : Wt P nt ops st x (D.filter (· != k)) S R := ⟨fun i hi hr => hW.reg i (List.mem_filter.1 hi).1 hr, fun i hi hr => hW.still i (List.mem_filter.1 hi).1 hr, hW.apt⟩
  unfold wpOp
  simp only [ho]
  rw [hwa]
  rcases Classical.em (k ∈ R) with hkR | hkR
  · obtain ⟨o', d', v, ho', hd', _, hv, hw1, hw2⟩ := hW.reg k hkD hkR
    rw [ho] at ho'; injection ho' with ho'; subst ho'
    rw [hd] at hd'; injection hd' with hd'; subst hd'
    cases hwt : Region.wanted o (yielded ops x.tmps) with
    | true =>
      simp only [if_true]
      refine .inl ?_
      unfold Oper.wp
      rw [← hex, hw1 hwt w, Oper.upon_value]
      exact ⟨rfl, x, h, sub, by rw [hd]; exact ag_done hA hdk hv⟩
    | false =>
      have := hw2 hwt
      subst this
      simp only [Bool.false_eq_true, if_false]
      exact ⟨trivial, x, h, sub, by rw [hd]; exact ag_done hA hdk hv⟩
  · obtain ⟨hkS, hstk⟩ := hW.still k hkD hkR
    obtain ⟨o', d', ho', hd', g1, g2, g3, g4⟩ := hstk.get
    rw [ho] at ho'; injection ho' with ho'; subst ho'
    rw [hd] at hd'; injection hd' with hd'; subst hd'
    -- the act behind it
    have fin : ∀ v, CtRep γ ω w st x.tmps (.slot d) (lk st.v d) v → ∃ x', Rel γ ω w nt st x' ∧ Wt P nt ops st x' (D.filter (· != k)) S R ∧ Ag (dss ops (D.filter (· != k))) x' (a.put o.dst v) := by
      intro v hv
      have hR2 : Rel γ ω w nt st (x.put (some d) v) := by
        have hX : Rel γ ω w nt ⟨killL [d] st.v, st.B⟩ x := h.less (less_kill (fun s hs => by
          have : s = d := by simpa [memN, eq_comm] using hs
          subst this; exact g3)) (Ag.refl _ _)
        have hdead : lk (killL [d] st.v) d = .dead := by rw [lk_killL]; simp [memN]
        have hv' : CtRep γ ω w ⟨killL [d] st.v, st.B⟩ x.tmps (.slot d) (lk st.v d) v := by
          cases hc : lk st.v d with
          | sh m => rw [hc] at hv; exact hv
          | dead => trivial
          | _ => rw [hc] at g3; simp [isShD] at g3
        refine (hX.put g1 hv').ext rfl (fun s => ?_)
        rw [lk_put_dead hdead g3]
        by_cases e : d = s
        · subst e; simp
        · simp only [e, if_false]; rw [lk_killL]; simp [memN, e]
      refine ⟨x.put (some d) v, hR2, ⟨fun i hi hr => ?_, fun i hi hr => hW.still i (List.mem_filter.1 hi).1 hr, hW.apt⟩, ?_⟩
      · refine (hW.reg i (List.mem_filter.1 hi).1 hr).put hreg (fun o hoo => hW.apt.1 i hr k hkS o d hoo hdk) (fun q => hW.apt.2 i hr k hkS d q hdk)
      · have hA' : Ag (dss ops D) (x.put (some d) v) (a.put (some d) v) := hA.put _ _
        have hsz : d < x.tmps.size := by rw [h.size]; exact g1
        have h3 := ag_done (k := k) (v := v) hA' hdk (by simp only [Act.put]; rw [Array.getElem?_setIfInBounds_self, if_pos hsz])
        rw [hd]
        have e2 : (a.put (some d) v).put (some d) v = a.put (some d) v := by simp [Act.put]
        rw [e2] at h3
        exact h3
    cases hwt : wantP ops st o with
    | none => rw [hwt] at g4; exact g4.elim
    | some b =>
      rw [hwt] at g4
      rw [want_ok h hwt]
      cases b with
      | true =>
        simp only [if_true]
        refine .inl ?_
        obtain ⟨c, v, q1, q2, q3⟩ := pure_ok h g4
        unfold Oper.wp
        rw [← hex, q1, Oper.upon_value]
        exact ⟨rfl, fin v (by rw [← q3]; exact q2 _)⟩
      | false =>
        simp only [Bool.false_eq_true, if_false]
        exact ⟨trivial, fin undef (by rw [g4]; exact rep_undef)⟩

/-- From here on every order comes to K. -/
def DrV (P : Program) (nt : Nat) (fz : List Nat) (ops : Array Oper) (L S R : List Nat) (st : St) (K : St → Prop) : Prop :=
  ∀ (γ : List Nat) (ω : Own) (w : World) (x a : Act) (D : List Nat) (listed : Array Bool) (fuel : Nat) (Q : Exit → Act → World → Prop), Inv ops L D listed → (∀ i ∈ D, i ∈ L) → (∀ i ∈ D, i ∈ S ∨ i ∈ R) → Wt P nt ops st x D S R → un listed ≤ fuel →
    Rel γ ω w nt st x → Ag (dss ops D) x a → (∀ γ' ω' w' st' a', Chg NotOuter γ ω w γ' ω' w' → Rel γ' ω' w' nt st' a' → K st' → Q .normal a' w') → wpAny P .any ops Q fuel listed a w

/-- The same, told otherwise. -/
structure Ext (st st' : St) : Prop where
  B : st'.B = st.B
  lk : ∀ s, Go.Pv.lk st'.v s = Go.Pv.lk st.v s
theorem Ext.less {st st' : St} (h : Ext st st') : Less [] st st' := ⟨h.B, fun s => by simp [memN, h.lk], fun s hs => by simp [memN] at hs⟩
theorem Still.ext {st' : St} {i : Nat} (h : Ext st st') (hs : Still P nt ops st i) : Still P nt ops st' i := by
  obtain ⟨o, d, ho, hd, hso⟩ := hs.get
  have := hso.less h.less (by intro t ht; rfl) rfl
  unfold Still
  rw [ho]; simp only [hd]; exact this
theorem DrV.ext {fz L S R : List Nat} {K : St → Prop} {st' : St} (h : Ext st st') (hd : DrV P nt fz ops L S R st' K) : DrV P nt fz ops L S R st K := by
  intro γ ω w x a D listed fuel Q hI hDL hDS hW hun hr hA hq
  exact hd γ ω w x a D listed fuel Q hI hDL hDS ⟨hW.reg, fun i hi hn => ⟨(hW.still i hi hn).1, (hW.still i hi hn).2.ext h⟩, hW.apt⟩ hun (hr.ext h.B h.lk) hA hq

theorem DrV.done {fz L S R : List Nat} {K : St → Prop} (hreg : regOk ops = true) (hL : ∀ i, i < ops.size → i ∈ L) (hK : K st) : DrV P nt fz ops L S R st K := by
  intro γ ω w x a D listed fuel Q hI hDL hDS hW hun h hA hq
  have fin0 : ∀ {x a : Act}, Rel γ ω w nt st x → Ag (dss ops []) x a → Rel γ ω w nt st a := fun hx ha => hx.less (ds := []) ⟨rfl, fun s => by simp [memN], fun s hs => by simp [memN] at hs⟩ ha
  induction fuel generalizing D listed x a with
  | zero =>
    have hall := fun i (hi : i < ops.size) => un_zero (Nat.le_zero.1 hun) (i := i) (by rw [hI.size]; exact hi)
    have hD' : D = [] := List.eq_nil_iff_forall_not_mem.2 (fun i hi => by
      obtain ⟨o, d, ho, _⟩ := hW.get i hi
      have hlt : i < ops.size := (Array.getElem?_eq_some_iff.1 ho).1
      exact ((hI.mem i hlt).1 (hall i hlt)).2 hi)
    subst hD'
    have hr : Region.ready .any ops listed = [] := by
      rw [List.eq_nil_iff_forall_not_mem]
      intro k hk
      obtain ⟨h1, h2⟩ := ready_un hI.size hk
      rw [hall k h1] at h2; simp at h2
    exact ⟨hr, hq _ _ _ _ _ (Chg.refl _ _ _ _) (fin0 h hA) hK⟩
  | succ fuel ih =>
    refine ⟨fun hr => ?_, fun k hk => ?_⟩
    · have hall := ready_nil hreg hI.size hr
      have hD' : D = [] := List.eq_nil_iff_forall_not_mem.2 (fun i hi => by
        obtain ⟨o, d, ho, _⟩ := hW.get i hi
        have hlt : i < ops.size := (Array.getElem?_eq_some_iff.1 ho).1
        exact ((hI.mem i hlt).1 (hall i hlt)).2 hi)
      subst hD'
      exact hq _ _ _ _ _ (Chg.refl _ _ _ _) (fin0 h hA) hK
    · obtain ⟨hlt, hu⟩ := ready_un hI.size hk
      have hkD : k ∈ D := by
        rcases Classical.em (k ∈ D) with h1 | h1
        · exact h1
        · have := (hI.mem k hlt).2 ⟨hL k hlt, h1⟩
          rw [this] at hu; simp at hu
      refine wpOp_mono (fun a' w' hh => ?_) (pend2 hreg hI hW hkD hk h hA Q)
      obtain ⟨rfl, x', hR, hW', hA'⟩ := hh
      exact ih x' _ (D.filter (· != k)) _ (hI.set (hL k hlt) (by simp) (fun i hi => by simp [hi])) (fun i hi => hDL i (List.mem_filter.1 hi).1) (fun i hi => hDS i (List.mem_filter.1 hi).1) hW'
        (by have := un_set (by rw [hI.size]; exact hlt) hu; omega) hR hA'

/-- Something is run early. -/
theorem DrV.early {fz L S R S' R' : List Nat} {K : St → Prop} (hreg : regOk ops = true) (i : Nat) {o : Oper} {d : Nat} (ho : ops[i]? = some o) (hd : o.dst = some d) (hiL : i ∉ L) (hdn : d < nt)
    (hS : ∀ j ∈ S, j ∈ S') (hR : ∀ j ∈ R, j ∈ R') (hi : i ∈ S' ∨ i ∈ R') (hapt : Apt ops S' R') (hnew : ∀ j ∈ R', j = i ∨ j ∈ R) (hiR : i ∈ R' → i ∉ S')
    (hk1 : ∀ j ∈ R, ∀ oj, ops[j]? = some oj → d ∉ oj.looksAt ops) (hk2 : ∀ j ∈ R, dstN ops j ≠ some d)
    (h : ∀ {γ : List Nat} {ω : Own} {w : World} {x : Act}, Rel γ ω w nt st x → (∀ j ∈ S, j ∉ R → True) → ∃ c v, Rel γ ω w nt (st.put d c) (x.put (some d) v) ∧ (i ∈ R' → RegV P ops (x.put (some d) v) i) ∧ (i ∉ R' → Still P nt ops (st.put d c) i) ∧ (∀ j ∈ S, j ≠ i → Still P nt ops st j → Still P nt ops (st.put d c) j) ∧ DrV P nt fz ops (i :: L) S' R' (st.put d c) K) : DrV P nt fz ops L S R st K := by
  intro γ ω w x a D listed fuel Q hI hDL hDS hW hun hRx hA hq
  obtain ⟨c, v, hR2, hrv, hsv, hold, hDr⟩ := h hRx (fun _ _ _ => trivial)
  have hdi : dstN ops i = some d := by simp [dstN, ho, hd]
  have hiD : i ∉ D := fun hh => hiL (hDL i hh)
  have hds : dss ops (i :: D) = d :: dss ops D := by simp [dss, hdi]
  refine hDr γ ω w (x.put (some d) v) a (i :: D) listed fuel Q ⟨hI.size, fun j hj => ?_⟩ (fun j hj => ?_) (fun j hj => ?_) ⟨fun j hj hr => ?_, fun j hj hr => ?_, hapt⟩ hun hR2 ?_ hq
  · rw [hI.mem j hj]
    simp only [List.mem_cons, not_or]
    constructor
    · rintro ⟨h1, h2⟩; exact ⟨.inr h1, fun e => hiL (e ▸ h1), h2⟩
    · rintro ⟨h1, h2, h3⟩
      rcases h1 with e | e
      · exact absurd e h2
      · exact ⟨e, h3⟩
  · rcases List.mem_cons.1 hj with e | e
    · rw [e]; simp
    · exact List.mem_cons_of_mem _ (hDL j e)
  · rcases List.mem_cons.1 hj with e | e
    · rw [e]; exact hi
    · rcases hDS j e with h1 | h1
      · exact .inl (hS j h1)
      · exact .inr (hR j h1)
  · rcases List.mem_cons.1 hj with e | e
    · subst e; exact hrv hr
    · have hjR : j ∈ R := by
        rcases hnew j hr with q | q
        · subst q; exact absurd e hiD
        · exact q
      exact (hW.reg j e hjR).put hreg (fun oj hoj => hk1 j hjR oj hoj) (hk2 j hjR)
  · rcases List.mem_cons.1 hj with e | e
    · subst e
      exact ⟨hi.resolve_right hr, hsv hr⟩
    · have hjR : j ∉ R := fun q => hr (hR j q)
      obtain ⟨q1, q2⟩ := hW.still j e hjR
      exact ⟨hS j q1, hold j q1 (fun q => by subst q; exact hiD e) q2⟩
  · rw [hds]
    refine ⟨hA.defers, by simp [Act.put, hA.size], fun s hs => ?_⟩
    by_cases e : d = s
    · subst e; simp [memN] at hs
    · simp only [memN, e, if_false] at hs
      simp only [Act.put]
      rw [Array.getElem?_setIfInBounds_ne e]
      exact hA.same s hs

/-- An operation turns its own slot alone. -/
theorem Oper.wp_dst {o : Oper} {x : Act} {K : Act → World → Prop} {Q : Exit → Act → World → Prop} (h : o.wp P x w K Q) : o.wp P x w (fun x' w' => K x' w' ∧ ∃ v, x'.tmps = (x.put o.dst v).tmps) Q := by
  unfold Oper.wp at h ⊢
  generalize (execOp x.eval o).run P w = r at h
  cases r with
  | halt h' w' => cases h' <;> exact h
  | ok n w' =>
    cases n with
    | value v => exact ⟨h, v, rfl⟩
    | skip => exact ⟨h, undef, rfl⟩
    | defer d => exact ⟨h, undef, by cases o.dst <;> rfl⟩
    | enter f args =>
      simp only [Oper.upon] at h ⊢
      refine Calls.mono h fun e w'' hh => ?_
      cases e with
      | returned v => exact ⟨hh, v, rfl⟩
      | panicked ch => exact hh
      | outgrown => exact hh
    | row rw_ args =>
      simp only [Oper.upon] at h ⊢
      exact Rows.mono h fun v w'' hh => ⟨hh, v, rfl⟩
    | _ => exact h

theorem RegV.tm {x x' : Act} {i : Nat} (h : RegV P ops x i) (e : x'.tmps = x.tmps) : RegV P ops x' i := by
  obtain ⟨o, d, v, h1, h2, h3, h4, h5, h6⟩ := h
  have he : x'.eval = x.eval := by
    funext y
    cases y <;> simp [Act.eval, e]
  exact ⟨o, d, v, h1, h2, h3, by rw [e]; exact h4, fun q => by rw [he]; exact h5 (by rw [← e]; exact q), fun q => h6 (by rw [← e]; exact q)⟩

theorem gd_exec2 {fz : List Nat} {o : Oper} {k : Nat} {a : Act} (ho : ops[k]? = some o) (hs : ∀ cs b, o.op ≠ .select cs b) {K : St → Prop} (hx : gdP P nt fz ops o st K) {x : Act} (h : Rel γ ω w nt st x) {ds : List Nat} (hA : Ag ds x a) (hl : ∀ t ∈ o.looksAt ops, memN ds t = false) (Q : Exit → Act → World → Prop) :
    wpOp P ops Q k (fun a' w' => ∃ γ' ω' st' x', Chg NotOuter γ ω w γ' ω' w' ∧ Rel γ' ω' w' nt st' x' ∧ K st' ∧ Ag ds x' a' ∧ ∃ v, x'.tmps = (x.put o.dst v).tmps) a w := by
  have fin : ∀ (hx : opP P nt fz o st K), o.wp P a w (fun a' w' => ∃ γ' ω' st' x', Chg NotOuter γ ω w γ' ω' w' ∧ Rel γ' ω' w' nt st' x' ∧ K st' ∧ Ag ds x' a' ∧ ∃ v, x'.tmps = (x.put o.dst v).tmps) Q := by
    intro hx
    have := wp_move (ops := ops) hA hs hl (Q := Q) (Oper.wp_dst (op_ok h hx (fun _ _ _ => False)))
    refine Oper.wp_mono (fun a' w' hh => ?_) this
    obtain ⟨x', ⟨⟨γ', ω', st', h1, h2, h3⟩, h5⟩, h4⟩ := hh
    exact ⟨γ', ω', st', x', h1, h2, h3, h4, h5⟩
  have hwa : Region.wanted o (yielded ops a.tmps) = Region.wanted o (yielded ops x.tmps) := by
    unfold Region.wanted
    cases hg : o.guard with
    | none => rfl
    | some y =>
      obtain ⟨j, want⟩ := y
      have : yielded ops a.tmps j = yielded ops x.tmps j := by
        unfold yielded
        cases hd0 : (ops[j]?).bind (·.dst) with
        | none => rfl
        | some d0 =>
          simp only [Option.bind_some]
          rw [hA.same d0 (hl d0 (guard_looks hg hd0))]
      simp only [this]
  unfold wpOp
  simp only [ho]
  unfold gdP at hx
  split at hx
  · rename_i hg
    have hw : Region.wanted o (yielded ops a.tmps) = true := by simp [Region.wanted, hg]
    rw [if_pos hw]
    exact .inl (fin hx)
  · rename_i j want hg
    split at hx
    · rename_i d hd
      split at hx
      · rename_i b hb
        have hwp : wantP ops st o = some (b == want) := by unfold wantP; rw [hg]; simp only [hd, hb]
        rw [hwa, want_ok h hwp]
        by_cases hbw : b = want
        · rw [if_pos hbw] at hx
          rw [if_pos (by simp [hbw])]
          exact .inl (fin hx)
        · rw [if_neg hbw] at hx
          rw [if_neg (by simp [hbw])]
          exact ⟨γ, ω, _, _, Chg.refl _ _ _ _, h.putO (dOk_iff hx.1) (c := .sh (.tup [])) (v := undef) (fun t _ => rep_undef), hx.2, hA.put _ _, undef, rfl⟩
      · rename_i hb
        have hwp : wantP ops st o = some false := by unfold wantP; rw [hg]; simp only [hd, hb]
        rw [hwa, want_ok h hwp]
        rw [if_neg (by simp)]
        exact ⟨γ, ω, _, _, Chg.refl _ _ _ _, h.putO (dOk_iff hx.1) (c := .sh (.tup [])) (v := undef) (fun t _ => rep_undef), hx.2, hA.put _ _, undef, rfl⟩
      · exact hx.elim
    · exact hx.elim

theorem Apt.sub {S R S' R' : List Nat} (h : Apt ops S R) (hS : ∀ i ∈ S', i ∈ S) (hR : ∀ i ∈ R', i ∈ R) : Apt ops S' R' :=
  ⟨fun i hi j hj => h.1 i (hR i hi) j (hS j hj), fun i hi j hj => h.2 i (hR i hi) j (hS j hj)⟩

theorem okOne_ok {o : Oper} {R : List Nat} (h : okOne ops o R = true) {d : Nat} (hd : o.dst = some d) : ∀ j ∈ R, (∀ oj, ops[j]? = some oj → d ∉ oj.looksAt ops) ∧ dstN ops j ≠ some d := by
  intro j hj
  unfold okOne at h
  rw [hd] at h
  have := List.all_eq_true.1 h j hj
  split at this
  · exact absurd this (by simp)
  · rename_i oj hoj
    simp only [Bool.and_eq_true, Bool.not_eq_true', bne_iff_ne, ne_eq] at this
    refine ⟨fun oj' hoj' hm => ?_, fun q => this.2 (by simpa [dstN, hoj] using q)⟩
    rw [hoj] at hoj'; injection hoj' with hoj'; subst hoj'
    rw [List.contains_iff_mem.2 hm] at this; simp at this

theorem DrV.all {fz L S R : List Nat} {K : St → Prop} (hreg : regOk ops = true) {rs : List Nat} (hrs : nextOf ops L = rs) (hne : rs ≠ [])
    (h : ∀ j ∈ rs, ∃ o, ops[j]? = some o ∧ okOne ops o (restOf ops R j) = true ∧ gdP P nt fz ops o st (fun st' => stillAll P nt ops st' (restOf ops S j) ∧ DrV P nt fz ops (j :: L) (restOf ops S j) (restOf ops R j) st' K)) : DrV P nt fz ops L S R st K := by
  intro γ ω w x a D listed fuel Q hI hDL hDS hW hun hRx hA hq
  obtain ⟨m, hm⟩ : ∃ m, m ∈ rs := by cases rs with
    | nil => exact absurd rfl hne
    | cons m r => exact ⟨m, by simp⟩
  have hmL : m < ops.size ∧ m ∉ L := by
    rw [← hrs] at hm
    obtain ⟨h1, h2⟩ := List.mem_filter.1 hm
    refine ⟨List.mem_range.1 h1, fun e => ?_⟩
    simp [memN_iff.2 e] at h2
  have hmore : listed.getD m false = false := by
    cases hl : listed.getD m false with
    | false => rfl
    | true => exact absurd ((hI.mem m hmL.1).1 hl).1 hmL.2
  induction fuel generalizing D listed x a with
  | zero =>
    have := un_zero (Nat.le_zero.1 hun) (i := m) (by rw [hI.size]; exact hmL.1)
    rw [this] at hmore; simp at hmore
  | succ fuel ih =>
    refine ⟨fun hr => ?_, fun k hk => ?_⟩
    · have := ready_nil hreg hI.size hr m hmL.1
      rw [this] at hmore; simp at hmore
    · obtain ⟨hlt, hu⟩ := ready_un hI.size hk
      have hun' : un (listed.setIfInBounds k true) ≤ fuel := by have := un_set (by rw [hI.size]; exact hlt) hu; omega
      rcases Classical.em (k ∈ D) with hkD | hkD
      · refine wpOp_mono (fun a' w' hh => ?_) (pend2 hreg hI hW hkD hk hRx hA Q)
        obtain ⟨rfl, x', hR', hW', hA'⟩ := hh
        have h1 : k ∈ L := hDL k hkD
        have hI' : Inv ops L (D.filter (· != k)) (listed.setIfInBounds k true) := hI.set h1 (by simp) (fun i hi => by simp [hi])
        refine ih x' _ (D.filter (· != k)) _ hI' (fun i hi => hDL i (List.mem_filter.1 hi).1) (fun i hi => hDS i (List.mem_filter.1 hi).1) hW' hun' hR' hA' ?_
        cases hl : (listed.setIfInBounds k true).getD m false with
        | false => rfl
        | true => exact absurd ((hI'.mem m hmL.1).1 hl).1 hmL.2
      · have hkL : k ∉ L := fun e => by
          have := (hI.mem k hlt).2 ⟨e, hkD⟩
          rw [this] at hu; simp at hu
        obtain ⟨_, o, ho, hall⟩ := mem_ready.1 hk
        have hpre : ∀ e ∈ o.after, Region.binds .any e = true → e.on ∈ L ∧ e.on ∉ D := fun e he hb => by
          have h1 := hall e he hb
          have hlt' : e.on < ops.size := by have := (regOk_get hreg ho).1 e he hb; omega
          exact (hI.mem e.on hlt').1 h1
        have hkrs : k ∈ rs := by
          rw [← hrs]
          refine List.mem_filter.2 ⟨List.mem_range.2 hlt, ?_⟩
          have h1 : memN L k = false := by
            cases hm' : memN L k with
            | false => rfl
            | true => exact absurd (memN_iff.1 hm') hkL
          simp only [h1, ho, Bool.not_false, Bool.true_and, Array.all_eq_true_iff_forall_mem, Bool.or_eq_true, Bool.not_eq_true']
          intro e he
          cases hb : Region.binds .any e with
          | false => exact .inl rfl
          | true => exact .inr (memN_iff.2 (hpre e he hb).1)
        obtain ⟨o', ho', hone, hg⟩ := h k hkrs
        rw [ho] at ho'; injection ho' with ho'; subst ho'
        refine wpOp_mono (fun a' w' hh => ?_) (gd_exec2 ho (regOk_get hreg ho).2.1 hg hRx hA (ready_apart2 hreg hI hW.get hk ho) Q)
        obtain ⟨γ', ω', st', x', h1, h2, ⟨h3, h4⟩, h5, v, h6⟩ := hh
        have hrest : ∀ (T : List Nat), ∀ i ∈ D, i ∈ T → i ∈ restOf ops T k := fun T i hi hT => by
          simp only [restOf, ho]
          refine List.mem_filter.2 ⟨hT, ?_⟩
          cases hb : bindsOn o i with
          | false => rfl
          | true =>
            obtain ⟨e, he, hb⟩ := Array.any_eq_true'.1 hb
            simp only [Bool.and_eq_true, beq_iff_eq] at hb
            exact absurd (hb.2 ▸ hi) (hpre e he hb.1).2
        have hback : ∀ (T : List Nat), ∀ i ∈ restOf ops T k, i ∈ T := fun T i hi => by
          simp only [restOf, ho] at hi
          exact (List.mem_filter.1 hi).1
        refine h4 γ' ω' w' x' a' D _ fuel Q (hI.set (by simp) hkD (fun i hi => by simp [hi])) (fun i hi => List.mem_cons_of_mem _ (hDL i hi)) (fun i hi => ?_) ⟨fun i hi hr => ?_, fun i hi hr => ?_, hW.apt.sub (hback S) (hback R)⟩ hun' h2 h5 (fun γ2 ω2 w2 st2 a2 g1 g2 g3 => hq _ _ _ _ _ (h1.trans g1) g2 g3)
        · rcases hDS i hi with q | q
          · exact .inl (hrest S i hi q)
          · exact .inr (hrest R i hi q)
        · have hr0 := hW.reg i hi (hback R i hr)
          cases hd : o.dst with
          | none => exact hr0.tm (by rw [h6, hd]; rfl)
          | some d =>
            obtain ⟨q1, q2⟩ := okOne_ok hone hd i hr
            exact (hr0.put hreg (e := d) (v := v) q1 q2).tm (by rw [h6, hd])
        · have hr' : i ∉ R := fun q => hr (hrest R i hi q)
          obtain ⟨q1, q2⟩ := hW.still i hi hr'
          exact ⟨hrest S i hi q1, stillAll_get h3 i (hrest S i hi q1)⟩

/-- A region whose order is open. -/
theorem PW.dregV {Q : PX → St → Prop} (fz : List Nat) {id : Nat} (hm : P.follows .mixedOrders = true) (hreg : regOk ops = true) (h : DrV P nt fz ops [] [] [] st (fun st' => Q .normal st')) : PW P nt (.region id ops true) st Q := by
  intro γ ω w a R hr hk
  refine wp_region_any hm ?_
  have hc : Chg (fun _ => False) γ ω w γ ω { w with drawn := w.drawn + 1 } := ⟨rfl, rfl, rfl, Nat.le_refl _, fun _ _ h => h, fun _ _ h => ⟨rfl, h⟩, fun _ _ _ h _ => ⟨rfl, h⟩⟩
  have hr' : Rel γ ω { w with drawn := w.drawn + 1 } nt st a := hr.grow hc hr.lt
  refine h γ ω _ a a [] _ ops.size R ⟨by simp, fun i hi => ?_⟩ (by simp) (by simp) ⟨by simp, by simp, by simp [Apt]⟩ ?_ hr' (Ag.refl _ _) (fun γ' ω' w' st' a' h1 h2 h3 => ?_)
  · simp [hi]
  · have hs : (Array.replicate ops.size false).size = ops.size := by simp
    unfold un
    rw [hs]
    exact Nat.le_trans (List.length_filter_le _ _) (by simp)
  · exact hk .normal _ _ _ _ _ ((hc.mono (fun _ h => h.elim)).trans h1) h2 h3

end
end Go.Pv
