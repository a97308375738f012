/- A library of this session: open orders by a plan. -/
import Derived.Test.YtoakchnegkmepaaM30
set_option linter.unusedVariables false
set_option linter.unusedSimpArgs false
namespace Go.Pv

/-- A plan for a region whose order is open. -/
inductive Sc where
  | fin
  | take (i : Nat) (r : Sc)
  | one (j : Nat) (S : List Nat) (r : Sc)
  | two (j : Nat) (S : List Nat) (r : Sc) (more : Sc)

def scAt : List (Nat × Sc) → Nat → Sc
  | [], _ => .fin
  | (k, l) :: r, i => if k = i then l else scAt r i

/-- Where several may be next: each of them. -/
def alts : Sc → List Nat
  | .two j _ _ m => j :: alts m
  | .one j _ _ => [j]
  | _ => []

section
variable {P : Program} {nt : Nat} {fz : List Nat} {ops : Array Oper} {st : St}

def DrG (P : Program) (nt : Nat) (fz : List Nat) (ops : Array Oper) (sc : Sc) (L S : List Nat) (st : St) (K : St → Prop) : Prop := DrS P nt fz ops L S st K

theorem DrG.take {sc : Sc} {L S : List Nat} {K : St → Prop} {i : Nat} {r : Sc} (hsc : sc = .take i r) {od : Option Tmp} {op : Op} {ty : TypeId} {pos : String} {after : Array Edge} {q : List Oper} {d : Nat} (ho : ops.toList.drop i = ⟨od, op, ty, pos, after, none⟩ :: q) (hd : od = some d) (hk : (!memN L i && okTake ops S i && noStr P op) = true) (hdd : isShD (lk st.v d) = true)
    (h : ∀ K' : St → Prop, (∀ st', Still P nt ops st' i → DrG P nt fz ops r (i :: L) (i :: S) st' K → K' st') → opP P nt fz ⟨od, op, ty, "", #[], none⟩ st K') : DrG P nt fz ops sc L S st K := by
  simp only [Bool.and_eq_true, Bool.not_eq_true'] at hk
  exact DrS.take i (drop_get ho) hd hk.1.1 hk.1.2 hdd hk.2 rfl h

theorem DrG.one {sc : Sc} {L S : List Nat} {K : St → Prop} {j : Nat} {S' : List Nat} {r : Sc} (hsc : sc = .one j S' r) {od : Option Tmp} {op : Op} {ty : TypeId} {pos : String} {after : Array Edge} {q : List Oper} (ho : ops.toList.drop j = ⟨od, op, ty, pos, after, none⟩ :: q) (hreg : regOk ops = true) (hrs : nextOf ops L = [j]) (hS' : restOf ops S j = S')
    (h : ∀ K' : St → Prop, (∀ st', stillAll P nt ops st' S' → DrG P nt fz ops r (j :: L) S' st' K → K' st') → opP P nt fz ⟨od, op, ty, "", #[], none⟩ st K') : DrG P nt fz ops sc L S st K :=
  DrS.oneU j hreg hrs ho hS' h

/-- What a guard says: j's slot. -/
def wantG (st : St) (d : Option Nat) (want : Bool) : Option Bool :=
  match d with
  | some d => match lk st.v d with
    | .sh (.bool b) => some (b == want)
    | .sh (.tup []) => some false
    | _ => none
  | none => none

theorem wantG_eq {od : Option Tmp} {op : Op} {ty : TypeId} {pos : String} {after : Array Edge} {j : Nat} {want : Bool} {e : Option Nat} (he : dstN ops j = e) : wantP ops st ⟨od, op, ty, pos, after, some (j, want)⟩ = wantG st e want := by
  subst he
  unfold wantP wantG dstN
  rfl

theorem DrG.takeW {sc : Sc} {L S : List Nat} {K : St → Prop} {i : Nat} {r : Sc} (hsc : sc = .take i r) {od : Option Tmp} {op : Op} {ty : TypeId} {pos : String} {after : Array Edge} {j : Nat} {want : Bool} {q : List Oper} {d e : Nat} (ho : ops.toList.drop i = ⟨od, op, ty, pos, after, some (j, want)⟩ :: q) (hd : od = some d) (he : dstN ops j = some e) (hw : wantG st (some e) want = some true) (hk : (!memN L i && okTake ops S i && noStr P op) = true) (hdd : isShD (lk st.v d) = true)
    (h : ∀ K' : St → Prop, (∀ st', Still P nt ops st' i → DrG P nt fz ops r (i :: L) (i :: S) st' K → K' st') → opP P nt fz ⟨od, op, ty, "", #[], none⟩ st K') : DrG P nt fz ops sc L S st K := by
  simp only [Bool.and_eq_true, Bool.not_eq_true'] at hk
  exact DrS.takeW i (drop_get ho) hd hk.1.1 hk.1.2 hdd hk.2 h

theorem DrG.skipW {sc : Sc} {L S : List Nat} {K : St → Prop} {i : Nat} {r : Sc} (hsc : sc = .take i r) {od : Option Tmp} {op : Op} {ty : TypeId} {pos : String} {after : Array Edge} {j : Nat} {want : Bool} {q : List Oper} {d e : Nat} (ho : ops.toList.drop i = ⟨od, op, ty, pos, after, some (j, want)⟩ :: q) (hd : od = some d) (he : dstN ops j = some e) (hw : wantG st (some e) want = some false) (hk : (!memN L i && okTake ops S i && decide (d < nt)) = true) (hdd : isShD (lk st.v d) = true)
    (h : DrG P nt fz ops r (i :: L) (i :: S) (st.put d (.sh (.tup []))) K) : DrG P nt fz ops sc L S st K := by
  simp only [Bool.and_eq_true, Bool.not_eq_true', decide_eq_true_eq] at hk
  exact DrS.skipW i (drop_get ho) hd hk.1.1 hk.1.2 hdd hk.2 ((wantG_eq he).trans hw) h

theorem DrG.oneW {sc : Sc} {L S : List Nat} {K : St → Prop} {i : Nat} {S' : List Nat} {r : Sc} (hsc : sc = .one i S' r) {od : Option Tmp} {op : Op} {ty : TypeId} {pos : String} {after : Array Edge} {j : Nat} {want : Bool} {q : List Oper} {e : Nat} (ho : ops.toList.drop i = ⟨od, op, ty, pos, after, some (j, want)⟩ :: q) (he : dstN ops j = some e) (hb : lk st.v e = .sh (.bool want)) (hreg : regOk ops = true) (hrs : nextOf ops L = [i]) (hS' : restOf ops S i = S')
    (h : ∀ K' : St → Prop, (∀ st', stillAll P nt ops st' S' → DrG P nt fz ops r (i :: L) S' st' K → K' st') → opP P nt fz ⟨od, op, ty, "", #[], none⟩ st K') : DrG P nt fz ops sc L S st K :=
  DrS.one i hreg hrs (drop_get ho) hS' (fun K' hK => by
    have he' : (ops[j]?).bind (·.dst) = some e := he
    unfold gdP
    simp only [he', hb, if_true]
    exact h K' hK)

theorem DrG.oneS {sc : Sc} {L S : List Nat} {K : St → Prop} {i : Nat} {S' : List Nat} {r : Sc} (hsc : sc = .one i S' r) {od : Option Tmp} {op : Op} {ty : TypeId} {pos : String} {after : Array Edge} {j : Nat} {want b : Bool} {q : List Oper} {e : Nat} (ho : ops.toList.drop i = ⟨od, op, ty, pos, after, some (j, want)⟩ :: q) (he : dstN ops j = some e) (hb : lk st.v e = .sh (.bool b)) (hn : (b == want) = false) (hreg : regOk ops = true) (hrs : nextOf ops L = [i]) (hS' : restOf ops S i = S')
    (hdk : dOk od nt) (h : ∀ K' : St → Prop, (∀ st', stillAll P nt ops st' S' → DrG P nt fz ops r (i :: L) S' st' K → K' st') → K' (putO st od (.sh (.tup [])))) : DrG P nt fz ops sc L S st K :=
  DrS.one i hreg hrs (drop_get ho) hS' (fun K' hK => by
    have he' : (ops[j]?).bind (·.dst) = some e := he
    have hne : ¬ b = want := fun e => by subst e; simp at hn
    unfold gdP
    simp only [he', hb, if_neg hne]
    exact ⟨hdk, h K' hK⟩)

theorem DrG.oneU {sc : Sc} {L S : List Nat} {K : St → Prop} {i : Nat} {S' : List Nat} {r : Sc} (hsc : sc = .one i S' r) {od : Option Tmp} {op : Op} {ty : TypeId} {pos : String} {after : Array Edge} {j : Nat} {want : Bool} {q : List Oper} {e : Nat} (ho : ops.toList.drop i = ⟨od, op, ty, pos, after, some (j, want)⟩ :: q) (he : dstN ops j = some e) (hb : lk st.v e = .sh (.tup [])) (hreg : regOk ops = true) (hrs : nextOf ops L = [i]) (hS' : restOf ops S i = S')
    (hdk : dOk od nt) (h : ∀ K' : St → Prop, (∀ st', stillAll P nt ops st' S' → DrG P nt fz ops r (i :: L) S' st' K → K' st') → K' (putO st od (.sh (.tup [])))) : DrG P nt fz ops sc L S st K :=
  DrS.one i hreg hrs (drop_get ho) hS' (fun K' hK => by
    have he' : (ops[j]?).bind (·.dst) = some e := he
    unfold gdP
    simp only [he', hb]
    exact ⟨hdk, h K' hK⟩)

theorem Still.ofGW {i : Nat} {od : Option Tmp} {op : Op} {ty : TypeId} {pos : String} {after : Array Edge} {j : Nat} {want : Bool} {q : List Oper} {d e : Nat} {m : MV} (ho : ops.toList.drop i = ⟨od, op, ty, pos, after, some (j, want)⟩ :: q) (hd : od = some d) (he : dstN ops j = some e) (hw : wantG st (some e) want = some true) (hk : (pureK op && noStr P op) = true) (hm : lk st.v d = .sh m)
    (h : ∀ K' : St → Prop, (∀ st', lk st'.v d = .sh m → K' st') → opP P nt [] ⟨od, op, ty, "", #[], none⟩ st K') : Still P nt ops st i := by
  simp only [Bool.and_eq_true] at hk
  exact Still.ofW (drop_get ho) hd hk.1 hk.2 ((wantG_eq he).trans hw) hm h

theorem Still.ofGS {i : Nat} {od : Option Tmp} {op : Op} {ty : TypeId} {pos : String} {after : Array Edge} {j : Nat} {want : Bool} {q : List Oper} {d e : Nat} (ho : ops.toList.drop i = ⟨od, op, ty, pos, after, some (j, want)⟩ :: q) (hd : od = some d) (he : dstN ops j = some e) (hw : wantG st (some e) want = some false) (hk : (pureK op && decide (d < nt)) = true) (hm : lk st.v d = .sh (.tup [])) : Still P nt ops st i := by
  simp only [Bool.and_eq_true, decide_eq_true_eq] at hk
  exact Still.ofS (drop_get ho) hd hk.1 hk.2 ((wantG_eq he).trans hw) hm

theorem DrG.fin {sc : Sc} {L S : List Nat} {K : St → Prop} (hsc : sc = .fin) (hreg : regOk ops = true) (hL : (List.range ops.size).all (fun i => memN L i) = true) (hK : K st) : DrG P nt fz ops sc L S st K := DrS.done hreg hL hK

/-- One of those that may be next. -/
def DrA (P : Program) (nt : Nat) (fz : List Nat) (ops : Array Oper) (L S : List Nat) (st : St) (K : St → Prop) (j : Nat) : Prop :=
  stillAll P nt ops st S → match ops[j]? with
    | some o => gdP P nt fz ops o st (fun st' => stillAll P nt ops st' (restOf ops S j) ∧ Dr P nt fz ops (j :: L) (restOf ops S j) st' K)
    | none => False

def DrH (P : Program) (nt : Nat) (fz : List Nat) (ops : Array Oper) (sc : Sc) (L S : List Nat) (st : St) (K : St → Prop) : Prop := ∀ j ∈ alts sc, DrA P nt fz ops L S st K j

theorem DrG.alt {sc : Sc} {L S : List Nat} {K : St → Prop} {j : Nat} {S' : List Nat} {r m : Sc} (hsc : sc = .two j S' r m) (hreg : regOk ops = true) (hrs : nextOf ops L = alts sc) (h : DrH P nt fz ops sc L S st K) : DrG P nt fz ops sc L S st K := by
  intro hS
  refine Dr.all hreg hrs (by rw [hsc]; simp [alts]) ?_
  have key : ∀ l : List Nat, (∀ j ∈ l, DrA P nt fz ops L S st K j) → allN (fun j => match ops[j]? with
      | some o => gdP P nt fz ops o st (fun st' => stillAll P nt ops st' (restOf ops S j) ∧ Dr P nt fz ops (j :: L) (restOf ops S j) st' K)
      | none => False) l := by
    intro l
    induction l with
    | nil => intro _; trivial
    | cons a r ih =>
      intro hl
      cases r with
      | nil => exact hl a (by simp) hS
      | cons b q => exact ⟨hl a (by simp) hS, ih (fun j hj => hl j (List.mem_cons_of_mem _ hj))⟩
  exact key _ h

theorem DrA.of {L S : List Nat} {K : St → Prop} {j : Nat} {S' : List Nat} {r : Sc} {od : Option Tmp} {op : Op} {ty : TypeId} {pos : String} {after : Array Edge} {q : List Oper} (ho : ops.toList.drop j = ⟨od, op, ty, pos, after, none⟩ :: q) (hS' : restOf ops S j = S')
    (h : ∀ K' : St → Prop, (∀ st', stillAll P nt ops st' S' → DrG P nt fz ops r (j :: L) S' st' K → K' st') → opP P nt fz ⟨od, op, ty, "", #[], none⟩ st K') : DrA P nt fz ops L S st K j := by
  intro hS
  rw [drop_get ho]
  simp only
  rw [hS']
  exact h _ (fun st' h1 h2 => ⟨h1, h2 h1⟩)

theorem DrH.two {sc : Sc} {L S : List Nat} {K : St → Prop} {j : Nat} {S' : List Nat} {r m : Sc} (hsc : sc = .two j S' r m) {od : Option Tmp} {op : Op} {ty : TypeId} {pos : String} {after : Array Edge} {q : List Oper} (ho : ops.toList.drop j = ⟨od, op, ty, pos, after, none⟩ :: q) (hS' : restOf ops S j = S')
    (h : ∀ K' : St → Prop, (∀ st', stillAll P nt ops st' S' → DrG P nt fz ops r (j :: L) S' st' K → K' st') → opP P nt fz ⟨od, op, ty, "", #[], none⟩ st K') (h2 : DrH P nt fz ops m L S st K) : DrH P nt fz ops sc L S st K := by
  intro i hi
  rw [hsc] at hi
  simp only [alts, List.mem_cons] at hi
  rcases hi with e | e
  · subst e; exact DrA.of ho hS' h
  · exact h2 i e

theorem DrH.one {sc : Sc} {L S : List Nat} {K : St → Prop} {j : Nat} {S' : List Nat} {r : Sc} (hsc : sc = .one j S' r) {od : Option Tmp} {op : Op} {ty : TypeId} {pos : String} {after : Array Edge} {q : List Oper} (ho : ops.toList.drop j = ⟨od, op, ty, pos, after, none⟩ :: q) (hS' : restOf ops S j = S')
    (h : ∀ K' : St → Prop, (∀ st', stillAll P nt ops st' S' → DrG P nt fz ops r (j :: L) S' st' K → K' st') → opP P nt fz ⟨od, op, ty, "", #[], none⟩ st K') : DrH P nt fz ops sc L S st K := by
  intro i hi
  rw [hsc] at hi
  simp only [alts, List.mem_cons, List.not_mem_nil, or_false] at hi
  subst hi; exact DrA.of ho hS' h

theorem runQ_gC {P : Program} {nt : Nat} {fz : List Nat} {gs : List (Option Tmp)} {od : Option Tmp} {op : Op} {ty : TypeId} {pos : String} {after : Array Edge} {j : Nat} {want : Bool} {r : List Oper} {st : St} {K : St → Prop} (hb : gOf st gs[j]? = some want)
    (ht : ∀ K' : St → Prop, (∀ st', runQ P nt fz gs r st' K → K' st') → opP P nt fz ⟨od, op, ty, "", #[], none⟩ st K') : runQ P nt fz gs (⟨od, op, ty, pos, after, some (j, want)⟩ :: r) st K :=
  runQ_guard hb (fun _ => ht) (fun h => absurd rfl h)

theorem runQ_gS {P : Program} {nt : Nat} {fz : List Nat} {gs : List (Option Tmp)} {od : Option Tmp} {op : Op} {ty : TypeId} {pos : String} {after : Array Edge} {j : Nat} {want b : Bool} {r : List Oper} {st : St} {K : St → Prop} (hb : gOf st gs[j]? = some b) (hn : (b == want) = false)
    (hf : dOk od nt ∧ runQ P nt fz gs r (putO st od (.sh (.tup []))) K) : runQ P nt fz gs (⟨od, op, ty, pos, after, some (j, want)⟩ :: r) st K :=
  runQ_guard hb (fun h => by subst h; simp at hn) (fun _ => hf)

theorem PW.sdrawG (kt : List (Nat × List Nat)) (sct : List (Nat × Sc)) (fz : List Nat) {Q : PX → St → Prop} {id : Nat} {ops : Array Oper} {y : Code} (hm : P.follows .mixedOrders = true) (hreg : regOk ops = true) (h : ∀ K : St → Prop, (∀ st', PW P nt y (st'.norm (kpAt kt id)) Q → K st') → DrG P nt fz ops (scAt sct id) [] [] st K) : PW P nt (.seq (.region id ops true) y) st Q :=
  PW.sdraw fz hm hreg (fun K hK => h K (fun st' hp => hK st' (PW.weakN _ hp)) trivial)

theorem PW.drawG (sct : List (Nat × Sc)) (fz : List Nat) {Q : PX → St → Prop} {id : Nat} {ops : Array Oper} (hm : P.follows .mixedOrders = true) (hreg : regOk ops = true) (h : ∀ K : St → Prop, (∀ st', Q .normal st' → K st') → DrG P nt fz ops (scAt sct id) [] [] st K) : PW P nt (.region id ops true) st Q :=
  PW.dreg fz hm hreg (h (fun st' => Q .normal st') (fun _ h => h) trivial)

end
attribute [push_cast] stillAll
end Go.Pv
