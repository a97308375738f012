/- The library of this work, part D: texts M29 M30 M31 M32 M33 M34. Printed by merge.py. -/
import Derived.Test.YtoakchnegkmepaaDoorLC
section M29
/- A library of this session: what is read later is kept; cuts; loops. -/
set_option linter.unusedVariables false
set_option linter.unusedSimpArgs false
namespace Go.Pv

def normG (keep : List Nat) (v : List (Nat × Ct)) : List Nat → List (Nat × Ct)
  | [] => []
  | k :: r => (k, keepC keep (lk v k)) :: normG keep v r

/-- The slots of a list, in its order. -/
def St.norm (st : St) (keep : List Nat) : St := ⟨normG keep st.v keep, st.B⟩

theorem lk_normG (keep : List Nat) (v : List (Nat × Ct)) : ∀ (l : List Nat) (s : Nat), lk (normG keep v l) s = if memN l s then keepC keep (lk v s) else .dead
  | [], s => by simp [normG, lk, memN]
  | k :: r, s => by
    simp only [normG, lk, memN]
    by_cases h : k = s
    · subst h; simp
    · simp only [h, if_false]; exact lk_normG keep v r s

theorem keepC_sh (keep : List Nat) (m : MV) : keepC keep (.sh m) = .sh m := rfl
theorem keepC_own (keep : List Nat) (sz : Nat) (m : MV) : keepC keep (.own sz m) = .own sz m := rfl
theorem keepC_dead (keep : List Nat) : keepC keep .dead = .dead := rfl
theorem keepC_als (keep : List Nat) (s : Nat) : keepC keep (.al (.slot s)) = if memN keep s then .al (.slot s) else .dead := rfl
theorem keepC_alc (keep : List Nat) (k o : Nat) : keepC keep (.al (.cell k o)) = .al (.cell k o) := rfl
theorem keepC_eas (keep : List Nat) (s i o : Nat) : keepC keep (.eadr (.slot s) i o) = if memN keep s then .eadr (.slot s) i o else .dead := rfl
theorem keepC_eac (keep : List Nat) (k c i o : Nat) : keepC keep (.eadr (.cell k c) i o) = .eadr (.cell k c) i o := rfl
theorem keepC_tupc (keep : List Nat) (cs : List (Option Nat × MV)) : keepC keep (.tupc cs) = .tupc cs := rfl

section
variable {P : Program} {nt : Nat} {st : St} {Q : PX → St → Prop}

theorem Rel.norm {γ : List Nat} {ω : Own} {w : World} {a : Act} (h : Rel γ ω w nt st a) (keep : List Nat) : Rel γ ω w nt (st.norm keep) a :=
  (h.keep keep).ext rfl (fun s => by
    show lk (normG keep st.v keep) s = lk (keepS keep st.v) s
    rw [lk_normG, lk_keepS])

theorem PW.weakN {c : Code} (keep : List Nat) (h : PW P nt c (st.norm keep) Q) : PW P nt c st Q := fun γ ω w a R hr hk => h γ ω w a R (hr.norm keep) hk

/-- Which slots are read behind a region. -/
def kpAt : List (Nat × List Nat) → Nat → List Nat
  | [], _ => []
  | (k, l) :: r, i => if k = i then l else kpAt r i

theorem PW.sregN (kt : List (Nat × List Nat)) (fz : List Nat) {id : Nat} {ops : Array Oper} {y : Code} (h : ∀ K : St → Prop, (∀ st', PW P nt y (st'.norm (kpAt kt id)) Q → K st') → runQ P nt fz (ops.toList.map (·.dst)) ops.toList st K) : PW P nt (.seq (.region id ops false) y) st Q :=
  PW.sregQ fz (fun K hK => h K (fun st' hp => hK st' (PW.weakN _ hp)))

theorem PW.sdrawM (kt : List (Nat × List Nat)) (fz : List Nat) {id : Nat} {ops : Array Oper} {y : Code} (hm : P.follows .mixedOrders = true) (hreg : regOk ops = true) (h : ∀ K : St → Prop, (∀ st', PW P nt y (st'.norm (kpAt kt id)) Q → K st') → DrN P nt fz ops 0 ops.toList [] st K) : PW P nt (.seq (.region id ops true) y) st Q :=
  PW.sdrawN fz hm hreg (fun K hK => h K (fun st' hp => hK st' (PW.weakN _ hp)))

/-- Every way through x ends here. -/
theorem PW.cut (keep : List Nat) (S : St) {x y : Code} (h : PW P nt x st (thenQ (fun st' => st'.norm keep = S) Q)) (h2 : PW P nt y S Q) : PW P nt (.seq x y) st Q := by
  refine PW.seq (fun K hK => h.mono (fun e st' he => ?_))
  cases e with
  | normal => exact hK st' (PW.weakN keep (by rw [show st'.norm keep = S from he]; exact h2))
  | _ => exact he

/-- The same, where the end has a name and a condition. -/
theorem PW.cutE {σ : Type} (keep : List Nat) (S : σ → St) (I : σ → Prop) {x y : Code} (h : PW P nt x st (thenQ (fun st' => ∃ s, st'.norm keep = S s ∧ I s) Q)) (h2 : ∀ s, I s → PW P nt y (S s) Q) : PW P nt (.seq x y) st Q := by
  refine PW.seq (fun K hK => h.mono (fun e st' he => ?_))
  cases e with
  | normal =>
    obtain ⟨s, e1, hs⟩ := he
    exact hK st' (PW.weakN keep (by rw [e1]; exact h2 s hs))
  | _ => exact he

/-- A loop: what its slots hold, by a ghost. -/
theorem PW.loopN {σ : Type} (keep : List Nat) (S : σ → St) (I : σ → Prop) (μ : σ → Nat) {c : Code} (s0 : σ) (h0 : st.norm keep = S s0) (hI : I s0)
    (round : ∀ s, I s → PW P nt c (S s) (thenQ (fun st' => ∃ s', st'.norm keep = S s' ∧ I s' ∧ μ s' < μ s) Q)) : PW P nt (.loop c) st Q := by
  refine PW.loop (fun s st' => st'.norm keep = S s ∧ I s) μ s0 ⟨h0, hI⟩ (fun s st' hs => ?_)
  obtain ⟨h1, h2⟩ := hs
  refine PW.weakN keep ?_
  rw [h1]
  refine (round s h2).mono (fun e st'' he => ?_)
  cases e with
  | normal =>
    obtain ⟨s', e1, e2, e3⟩ := he
    exact ⟨s', ⟨e1, e2⟩, e3⟩
  | _ => exact he

end
end Go.Pv

end M29
section M30
/- A library of this session: the lemmas of the walk, in one set. -/
namespace Go.Pv
attribute [push_cast] op_move op_assign op_bin op_pick op_un op_conv op_extract op_load
attribute [push_cast] op_fa op_field op_ia op_idx op_slice op_nc op_func op_call
attribute [push_cast] op_append op_len op_min op_max op_make op_bs op_bld op_box
attribute [push_cast] op_alloc op_store bin_add bin_sub bin_mul bin_quo bin_rem bin_and
attribute [push_cast] bin_or bin_xor bin_eql bin_neq bin_lss bin_leq bin_gtr bin_geq
attribute [push_cast] bin_shl bin_shr bin_str bin_beq bin_bne dOk asgP mvConst
attribute [push_cast] mvZero zerosOf isNilC St.put putO argsV lk pt
attribute [push_cast] Ct.refs killS List.map_cons List.map_nil thenQ blkQ movP opv
attribute [push_cast] opvs rdc binE binStr unP convP extP kdOf
attribute [push_cast] shv shvs fnOf ncP faP fieldOf szOf fieldP
attribute [push_cast] cutC loadP shs iaP idxP lenP mmP sliceP
attribute [push_cast] bndOf mkP bsP bldP fillS tysOk litE cellsM
attribute [push_cast] boxP aloP stoP stoE stoB setR noOwn appP
attribute [push_cast] retO retOs memN aggKd St.at St.retire setCt retS
attribute [push_cast] retC St.upd killB noCell resC flatR flatV flatM
attribute [push_cast] flatL postP postBP resP resI List.length_cons List.length_nil List.getElem?_cons_zero
attribute [push_cast] List.getElem?_cons_succ List.getElem?_toArray List.take_zero List.take_succ_cons List.drop_zero List.drop_succ_cons List.nil_append List.cons_append
attribute [push_cast] List.append_nil List.zip_cons_cons List.zip_nil_left Option.map_some Option.bind_some List.all_cons List.all_nil Nat.add_zero
attribute [push_cast] Nat.zero_add Int.toNat_zero Bool.false_eq_true Bool.not_false Bool.not_true Bool.and_true Bool.true_and Bool.and_false
attribute [push_cast] true_and and_true and_self or_false false_or or_true true_or or_self
attribute [push_cast] ne_eq not_false_eq_true not_true_eq_false decide_true decide_false decide_eq_true_eq decide_eq_false_iff_not false_implies
attribute [push_cast] forall_const Bool.true_eq_false false_and and_false imp_true_iff implies_true exists_eq_left' exists_const
attribute [push_cast] Option.some.injEq List.cons.injEq MV.int.injEq MV.bool.injEq MV.str.injEq MV.list.injEq MV.agg.injEq Option.isSome_some
attribute [push_cast] List.set_cons_zero List.set_cons_succ List.length_set List.getElem?_set_self TK.slice.injEq TK.ptr.injEq exists_eq' eq_self
attribute [push_cast] forall_eq List.forall_mem_cons List.not_mem_nil St.norm normG keepC_sh keepC_own keepC_dead
attribute [push_cast] keepC_als keepC_alc keepC_eas keepC_eac keepC_tupc kpAt resM eqCells
attribute [push_cast] eq1 Bool.not_eq_true' byteRow_len
end Go.Pv

end M30
section M31
/- A library of this session: open orders by a plan. -/
set_option linter.unusedVariables false
set_option linter.unusedSimpArgs false
namespace Go.Pv

/-- A plan for a region whose order is open. -/
inductive Sc where
  | fin
  | take (i : Nat) (r : Sc)
  | one (j : Nat) (S : List Nat) (r : Sc)
  | two (j : Nat) (S : List Nat) (r : Sc) (more : Sc)

def scAt : List (Nat × Sc) → Nat → Sc
  | [], _ => .fin
  | (k, l) :: r, i => if k = i then l else scAt r i

/-- Where several may be next: each of them. -/
def alts : Sc → List Nat
  | .two j _ _ m => j :: alts m
  | .one j _ _ => [j]
  | _ => []

section
variable {P : Program} {nt : Nat} {fz : List Nat} {ops : Array Oper} {st : St}

def DrG (P : Program) (nt : Nat) (fz : List Nat) (ops : Array Oper) (sc : Sc) (L S : List Nat) (st : St) (K : St → Prop) : Prop := DrS P nt fz ops L S st K

theorem DrG.take {sc : Sc} {L S : List Nat} {K : St → Prop} {i : Nat} {r : Sc} (hsc : sc = .take i r) {od : Option Tmp} {op : Op} {ty : TypeId} {pos : String} {after : Array Edge} {q : List Oper} {d : Nat} (ho : ops.toList.drop i = ⟨od, op, ty, pos, after, none⟩ :: q) (hd : od = some d) (hk : (!memN L i && okTake ops S i && noStr P op) = true) (hdd : isShD (lk st.v d) = true)
    (h : ∀ K' : St → Prop, (∀ st', Still P nt ops st' i → DrG P nt fz ops r (i :: L) (i :: S) st' K → K' st') → opP P nt fz ⟨od, op, ty, "", #[], none⟩ st K') : DrG P nt fz ops sc L S st K := by
  simp only [Bool.and_eq_true, Bool.not_eq_true'] at hk
  exact DrS.take i (drop_get ho) hd hk.1.1 hk.1.2 hdd hk.2 rfl h

theorem DrG.one {sc : Sc} {L S : List Nat} {K : St → Prop} {j : Nat} {S' : List Nat} {r : Sc} (hsc : sc = .one j S' r) {od : Option Tmp} {op : Op} {ty : TypeId} {pos : String} {after : Array Edge} {q : List Oper} (ho : ops.toList.drop j = ⟨od, op, ty, pos, after, none⟩ :: q) (hreg : regOk ops = true) (hrs : nextOf ops L = [j]) (hS' : restOf ops S j = S')
    (h : ∀ K' : St → Prop, (∀ st', stillAll P nt ops st' S' → DrG P nt fz ops r (j :: L) S' st' K → K' st') → opP P nt fz ⟨od, op, ty, "", #[], none⟩ st K') : DrG P nt fz ops sc L S st K :=
  DrS.oneU j hreg hrs ho hS' h

/-- What a guard says: j's slot. -/
def wantG (st : St) (d : Option Nat) (want : Bool) : Option Bool :=
  match d with
  | some d => match lk st.v d with
    | .sh (.bool b) => some (b == want)
    | .sh (.tup []) => some false
    | _ => none
  | none => none

theorem wantG_eq {od : Option Tmp} {op : Op} {ty : TypeId} {pos : String} {after : Array Edge} {j : Nat} {want : Bool} {e : Option Nat} (he : dstN ops j = e) : wantP ops st ⟨od, op, ty, pos, after, some (j, want)⟩ = wantG st e want := by
  subst he
  unfold wantP wantG dstN
  rfl

theorem DrG.takeW {sc : Sc} {L S : List Nat} {K : St → Prop} {i : Nat} {r : Sc} (hsc : sc = .take i r) {od : Option Tmp} {op : Op} {ty : TypeId} {pos : String} {after : Array Edge} {j : Nat} {want : Bool} {q : List Oper} {d e : Nat} (ho : ops.toList.drop i = ⟨od, op, ty, pos, after, some (j, want)⟩ :: q) (hd : od = some d) (he : dstN ops j = some e) (hw : wantG st (some e) want = some true) (hk : (!memN L i && okTake ops S i && noStr P op) = true) (hdd : isShD (lk st.v d) = true)
    (h : ∀ K' : St → Prop, (∀ st', Still P nt ops st' i → DrG P nt fz ops r (i :: L) (i :: S) st' K → K' st') → opP P nt fz ⟨od, op, ty, "", #[], none⟩ st K') : DrG P nt fz ops sc L S st K := by
  simp only [Bool.and_eq_true, Bool.not_eq_true'] at hk
  exact DrS.takeW i (drop_get ho) hd hk.1.1 hk.1.2 hdd hk.2 h

theorem DrG.skipW {sc : Sc} {L S : List Nat} {K : St → Prop} {i : Nat} {r : Sc} (hsc : sc = .take i r) {od : Option Tmp} {op : Op} {ty : TypeId} {pos : String} {after : Array Edge} {j : Nat} {want : Bool} {q : List Oper} {d e : Nat} (ho : ops.toList.drop i = ⟨od, op, ty, pos, after, some (j, want)⟩ :: q) (hd : od = some d) (he : dstN ops j = some e) (hw : wantG st (some e) want = some false) (hk : (!memN L i && okTake ops S i && decide (d < nt)) = true) (hdd : isShD (lk st.v d) = true)
    (h : DrG P nt fz ops r (i :: L) (i :: S) (st.put d (.sh (.tup []))) K) : DrG P nt fz ops sc L S st K := by
  simp only [Bool.and_eq_true, Bool.not_eq_true', decide_eq_true_eq] at hk
  exact DrS.skipW i (drop_get ho) hd hk.1.1 hk.1.2 hdd hk.2 ((wantG_eq he).trans hw) h

theorem DrG.oneW {sc : Sc} {L S : List Nat} {K : St → Prop} {i : Nat} {S' : List Nat} {r : Sc} (hsc : sc = .one i S' r) {od : Option Tmp} {op : Op} {ty : TypeId} {pos : String} {after : Array Edge} {j : Nat} {want : Bool} {q : List Oper} {e : Nat} (ho : ops.toList.drop i = ⟨od, op, ty, pos, after, some (j, want)⟩ :: q) (he : dstN ops j = some e) (hb : lk st.v e = .sh (.bool want)) (hreg : regOk ops = true) (hrs : nextOf ops L = [i]) (hS' : restOf ops S i = S')
    (h : ∀ K' : St → Prop, (∀ st', stillAll P nt ops st' S' → DrG P nt fz ops r (i :: L) S' st' K → K' st') → opP P nt fz ⟨od, op, ty, "", #[], none⟩ st K') : DrG P nt fz ops sc L S st K :=
  DrS.one i hreg hrs (drop_get ho) hS' (fun K' hK => by
    have he' : (ops[j]?).bind (·.dst) = some e := he
    unfold gdP
    simp only [he', hb, if_true]
    exact h K' hK)

theorem DrG.oneS {sc : Sc} {L S : List Nat} {K : St → Prop} {i : Nat} {S' : List Nat} {r : Sc} (hsc : sc = .one i S' r) {od : Option Tmp} {op : Op} {ty : TypeId} {pos : String} {after : Array Edge} {j : Nat} {want b : Bool} {q : List Oper} {e : Nat} (ho : ops.toList.drop i = ⟨od, op, ty, pos, after, some (j, want)⟩ :: q) (he : dstN ops j = some e) (hb : lk st.v e = .sh (.bool b)) (hn : (b == want) = false) (hreg : regOk ops = true) (hrs : nextOf ops L = [i]) (hS' : restOf ops S i = S')
    (hdk : dOk od nt) (h : ∀ K' : St → Prop, (∀ st', stillAll P nt ops st' S' → DrG P nt fz ops r (i :: L) S' st' K → K' st') → K' (putO st od (.sh (.tup [])))) : DrG P nt fz ops sc L S st K :=
  DrS.one i hreg hrs (drop_get ho) hS' (fun K' hK => by
    have he' : (ops[j]?).bind (·.dst) = some e := he
    have hne : ¬ b = want := fun e => by subst e; simp at hn
    unfold gdP
    simp only [he', hb, if_neg hne]
    exact ⟨hdk, h K' hK⟩)

theorem DrG.oneU {sc : Sc} {L S : List Nat} {K : St → Prop} {i : Nat} {S' : List Nat} {r : Sc} (hsc : sc = .one i S' r) {od : Option Tmp} {op : Op} {ty : TypeId} {pos : String} {after : Array Edge} {j : Nat} {want : Bool} {q : List Oper} {e : Nat} (ho : ops.toList.drop i = ⟨od, op, ty, pos, after, some (j, want)⟩ :: q) (he : dstN ops j = some e) (hb : lk st.v e = .sh (.tup [])) (hreg : regOk ops = true) (hrs : nextOf ops L = [i]) (hS' : restOf ops S i = S')
    (hdk : dOk od nt) (h : ∀ K' : St → Prop, (∀ st', stillAll P nt ops st' S' → DrG P nt fz ops r (i :: L) S' st' K → K' st') → K' (putO st od (.sh (.tup [])))) : DrG P nt fz ops sc L S st K :=
  DrS.one i hreg hrs (drop_get ho) hS' (fun K' hK => by
    have he' : (ops[j]?).bind (·.dst) = some e := he
    unfold gdP
    simp only [he', hb]
    exact ⟨hdk, h K' hK⟩)

theorem Still.ofGW {i : Nat} {od : Option Tmp} {op : Op} {ty : TypeId} {pos : String} {after : Array Edge} {j : Nat} {want : Bool} {q : List Oper} {d e : Nat} {m : MV} (ho : ops.toList.drop i = ⟨od, op, ty, pos, after, some (j, want)⟩ :: q) (hd : od = some d) (he : dstN ops j = some e) (hw : wantG st (some e) want = some true) (hk : (pureK op && noStr P op) = true) (hm : lk st.v d = .sh m)
    (h : ∀ K' : St → Prop, (∀ st', lk st'.v d = .sh m → K' st') → opP P nt [] ⟨od, op, ty, "", #[], none⟩ st K') : Still P nt ops st i := by
  simp only [Bool.and_eq_true] at hk
  exact Still.ofW (drop_get ho) hd hk.1 hk.2 ((wantG_eq he).trans hw) hm h

theorem Still.ofGS {i : Nat} {od : Option Tmp} {op : Op} {ty : TypeId} {pos : String} {after : Array Edge} {j : Nat} {want : Bool} {q : List Oper} {d e : Nat} (ho : ops.toList.drop i = ⟨od, op, ty, pos, after, some (j, want)⟩ :: q) (hd : od = some d) (he : dstN ops j = some e) (hw : wantG st (some e) want = some false) (hk : (pureK op && decide (d < nt)) = true) (hm : lk st.v d = .sh (.tup [])) : Still P nt ops st i := by
  simp only [Bool.and_eq_true, decide_eq_true_eq] at hk
  exact Still.ofS (drop_get ho) hd hk.1 hk.2 ((wantG_eq he).trans hw) hm

theorem DrG.fin {sc : Sc} {L S : List Nat} {K : St → Prop} (hsc : sc = .fin) (hreg : regOk ops = true) (hL : (List.range ops.size).all (fun i => memN L i) = true) (hK : K st) : DrG P nt fz ops sc L S st K := DrS.done hreg hL hK

/-- One of those that may be next. -/
def DrA (P : Program) (nt : Nat) (fz : List Nat) (ops : Array Oper) (L S : List Nat) (st : St) (K : St → Prop) (j : Nat) : Prop :=
  stillAll P nt ops st S → match ops[j]? with
    | some o => gdP P nt fz ops o st (fun st' => stillAll P nt ops st' (restOf ops S j) ∧ Dr P nt fz ops (j :: L) (restOf ops S j) st' K)
    | none => False

def DrH (P : Program) (nt : Nat) (fz : List Nat) (ops : Array Oper) (sc : Sc) (L S : List Nat) (st : St) (K : St → Prop) : Prop := ∀ j ∈ alts sc, DrA P nt fz ops L S st K j

theorem DrG.alt {sc : Sc} {L S : List Nat} {K : St → Prop} {j : Nat} {S' : List Nat} {r m : Sc} (hsc : sc = .two j S' r m) (hreg : regOk ops = true) (hrs : nextOf ops L = alts sc) (h : DrH P nt fz ops sc L S st K) : DrG P nt fz ops sc L S st K := by
  intro hS
  refine Dr.all hreg hrs (by rw [hsc]; simp [alts]) ?_
  have key : ∀ l : List Nat, (∀ j ∈ l, DrA P nt fz ops L S st K j) → allN (fun j => match ops[j]? with
      | some o => gdP P nt fz ops o st (fun st' => stillAll P nt ops st' (restOf ops S j) ∧ Dr P nt fz ops (j :: L) (restOf ops S j) st' K)
      | none => False) l := by
    intro l
    induction l with
    | nil => intro _; trivial
    | cons a r ih =>
      intro hl
      cases r with
      | nil => exact hl a (by simp) hS
      | cons b q => exact ⟨hl a (by simp) hS, ih (fun j hj => hl j (List.mem_cons_of_mem _ hj))⟩
  exact key _ h

theorem DrA.of {L S : List Nat} {K : St → Prop} {j : Nat} {S' : List Nat} {r : Sc} {od : Option Tmp} {op : Op} {ty : TypeId} {pos : String} {after : Array Edge} {q : List Oper} (ho : ops.toList.drop j = ⟨od, op, ty, pos, after, none⟩ :: q) (hS' : restOf ops S j = S')
    (h : ∀ K' : St → Prop, (∀ st', stillAll P nt ops st' S' → DrG P nt fz ops r (j :: L) S' st' K → K' st') → opP P nt fz ⟨od, op, ty, "", #[], none⟩ st K') : DrA P nt fz ops L S st K j := by
  intro hS
  rw [drop_get ho]
  simp only
  rw [hS']
  exact h _ (fun st' h1 h2 => ⟨h1, h2 h1⟩)

theorem DrH.two {sc : Sc} {L S : List Nat} {K : St → Prop} {j : Nat} {S' : List Nat} {r m : Sc} (hsc : sc = .two j S' r m) {od : Option Tmp} {op : Op} {ty : TypeId} {pos : String} {after : Array Edge} {q : List Oper} (ho : ops.toList.drop j = ⟨od, op, ty, pos, after, none⟩ :: q) (hS' : restOf ops S j = S')
    (h : ∀ K' : St → Prop, (∀ st', stillAll P nt ops st' S' → DrG P nt fz ops r (j :: L) S' st' K → K' st') → opP P nt fz ⟨od, op, ty, "", #[], none⟩ st K') (h2 : DrH P nt fz ops m L S st K) : DrH P nt fz ops sc L S st K := by
  intro i hi
  rw [hsc] at hi
  simp only [alts, List.mem_cons] at hi
  rcases hi with e | e
  · subst e; exact DrA.of ho hS' h
  · exact h2 i e

theorem DrH.one {sc : Sc} {L S : List Nat} {K : St → Prop} {j : Nat} {S' : List Nat} {r : Sc} (hsc : sc = .one j S' r) {od : Option Tmp} {op : Op} {ty : TypeId} {pos : String} {after : Array Edge} {q : List Oper} (ho : ops.toList.drop j = ⟨od, op, ty, pos, after, none⟩ :: q) (hS' : restOf ops S j = S')
    (h : ∀ K' : St → Prop, (∀ st', stillAll P nt ops st' S' → DrG P nt fz ops r (j :: L) S' st' K → K' st') → opP P nt fz ⟨od, op, ty, "", #[], none⟩ st K') : DrH P nt fz ops sc L S st K := by
  intro i hi
  rw [hsc] at hi
  simp only [alts, List.mem_cons, List.not_mem_nil, or_false] at hi
  subst hi; exact DrA.of ho hS' h

theorem runQ_gC {P : Program} {nt : Nat} {fz : List Nat} {gs : List (Option Tmp)} {od : Option Tmp} {op : Op} {ty : TypeId} {pos : String} {after : Array Edge} {j : Nat} {want : Bool} {r : List Oper} {st : St} {K : St → Prop} (hb : gOf st gs[j]? = some want)
    (ht : ∀ K' : St → Prop, (∀ st', runQ P nt fz gs r st' K → K' st') → opP P nt fz ⟨od, op, ty, "", #[], none⟩ st K') : runQ P nt fz gs (⟨od, op, ty, pos, after, some (j, want)⟩ :: r) st K :=
  runQ_guard hb (fun _ => ht) (fun h => absurd rfl h)

theorem runQ_gS {P : Program} {nt : Nat} {fz : List Nat} {gs : List (Option Tmp)} {od : Option Tmp} {op : Op} {ty : TypeId} {pos : String} {after : Array Edge} {j : Nat} {want b : Bool} {r : List Oper} {st : St} {K : St → Prop} (hb : gOf st gs[j]? = some b) (hn : (b == want) = false)
    (hf : dOk od nt ∧ runQ P nt fz gs r (putO st od (.sh (.tup []))) K) : runQ P nt fz gs (⟨od, op, ty, pos, after, some (j, want)⟩ :: r) st K :=
  runQ_guard hb (fun h => by subst h; simp at hn) (fun _ => hf)

theorem PW.sdrawG (kt : List (Nat × List Nat)) (sct : List (Nat × Sc)) (fz : List Nat) {Q : PX → St → Prop} {id : Nat} {ops : Array Oper} {y : Code} (hm : P.follows .mixedOrders = true) (hreg : regOk ops = true) (h : ∀ K : St → Prop, (∀ st', PW P nt y (st'.norm (kpAt kt id)) Q → K st') → DrG P nt fz ops (scAt sct id) [] [] st K) : PW P nt (.seq (.region id ops true) y) st Q :=
  PW.sdraw fz hm hreg (fun K hK => h K (fun st' hp => hK st' (PW.weakN _ hp)) trivial)

theorem PW.drawG (sct : List (Nat × Sc)) (fz : List Nat) {Q : PX → St → Prop} {id : Nat} {ops : Array Oper} (hm : P.follows .mixedOrders = true) (hreg : regOk ops = true) (h : ∀ K : St → Prop, (∀ st', Q .normal st' → K st') → DrG P nt fz ops (scAt sct id) [] [] st K) : PW P nt (.region id ops true) st Q :=
  PW.dreg fz hm hreg (h (fun st' => Q .normal st') (fun _ h => h) trivial)

end
attribute [push_cast] stillAll
end Go.Pv

end M31
section M32
/- A library of this session: contracts are weakened. -/
set_option linter.unusedVariables false
set_option linter.unusedSimpArgs false
namespace Go.Pv

def shareR (r : Res) : Res := r.map fun x => (none, x.2)

theorem ResI.share {γ : List Nat} {ω ω' : Own} {w : World} (hω : ∀ b, ω b = some .res → ω' b = none) (hn : ∀ b, ω b = none → ω' b = none) {x : Option Nat × MV} {v : Value} (h : ResI γ ω w x v) : ResI γ ω' w (none, x.2) v := by
  obtain ⟨x1, x2⟩ := x
  cases x1 with
  | none => exact h.relabel hn
  | some sz => exact own_to_rep' hω hn h

theorem ResRep.share {γ : List Nat} {ω ω' : Own} {w : World} (hω : ∀ b, ω b = some .res → ω' b = none) (hn : ∀ b, ω b = none → ω' b = none) {r : Res} {v : Value} (h : ResRep γ ω w r v) : ResRep γ ω' w (shareR r) v := by
  match r, h with
  | [x], h => exact ResI.share hω hn h
  | [], h =>
    obtain ⟨vs, h1, h2, h3⟩ := h
    exact ⟨vs, h1, h2, fun i x u hx => by simp [shareR] at hx⟩
  | x :: y :: q, h =>
    obtain ⟨vs, h1, h2, h3⟩ := h
    refine ⟨vs, h1, by simpa [shareR] using h2, fun i z u hz hu => ?_⟩
    have : (shareR (x :: y :: q))[i]? = ((x :: y :: q)[i]?).map fun x => (none, x.2) := by simp only [shareR, List.getElem?_map]
    have hz' : ((x :: y :: q)[i]?).map (fun x => ((none : Option Nat), x.2)) = some z := this.symm.trans hz
    cases hq : (x :: y :: q)[i]? with
    | none => rw [hq] at hz'; simp at hz'
    | some t =>
      rw [hq] at hz'
      simp only [Option.map_some, Option.some.injEq] at hz'
      subst hz'
      exact ResI.share hω hn (h3 i t u hq hu)

/-- What a function hands back may be shared. -/
theorem Spec.share {P : Program} {f : FuncId} {args : List MV} {r : Res} (h : Spec P f args r) : Spec P f args (shareR r) := by
  refine ⟨h.1, fun γ ω w vs hl hv hlt hres => (h.2 γ ω w vs hl hv hlt hres).mono ?_⟩
  rintro e w' ⟨v, ω', he, hc, h1, h2, h3, h4⟩
  let ω2 : Own := fun b => if ω' b = some .res then none else ω' b
  have hn : ∀ b, ω' b = none → ω2 b = none := fun b hb => by simp [ω2, hb]
  have hr : ∀ b, ω' b = some .res → ω2 b = none := fun b hb => by simp [ω2, hb]
  have hk : ∀ b, ω' b ≠ some .res → ω2 b = ω' b := fun b hb => by simp [ω2, hb]
  refine ⟨v, ω2, he, ⟨hc.os, hc.tape, hc.output, hc.size, hc.pre, fun b hb h0 => ?_, fun b o hb h0 ho => ?_⟩, fun b hb => hn b (h1 b hb), fun b hb => ?_, fun b hb => ?_, h4.share hr hn⟩
  · obtain ⟨e1, e2⟩ := hc.none b hb h0; exact ⟨e1, hn b e2⟩
  · obtain ⟨e1, e2⟩ := hc.keep b o hb h0 ho
    refine ⟨e1, ?_⟩
    rw [hk b (by rw [h2 b hb]; exact hres b)]; exact e2
  · rw [hk b (by rw [h2 b hb]; exact hres b)]; exact h2 b hb
  · rcases h3 b hb with e | e | e
    · exact .inl (hn b e)
    · right; left; rw [hk b (by rw [e]; simp)]; exact e
    · exact .inl (hr b e)

theorem SpecB.share {P : Program} {f : FuncId} {args : List MV} {r : Res} {B B' : List (Option (List Ct))} (h : SpecB P f args B r B') : SpecB P f args B (shareR r) B' := by
  refine ⟨h.1, fun γ ω w vs hl hv hlt hlab hB => (h.2 γ ω w vs hl hv hlt hlab hB).mono ?_⟩
  rintro e w' ⟨v, ω', he, hc, h1, h2, h3, h4⟩
  let ω2 : Own := fun b => if ω' b = some .res then none else ω' b
  have hn : ∀ b, ω' b = none → ω2 b = none := fun b hb => by simp [ω2, hb]
  have hr : ∀ b, ω' b = some .res → ω2 b = none := fun b hb => by simp [ω2, hb]
  have hk : ∀ b, ω' b ≠ some .res → ω2 b = ω' b := fun b hb => by simp [ω2, hb]
  refine ⟨v, ω2, he, ⟨hc.os, hc.tape, hc.output, hc.size, hc.pre, fun b hb h0 => ?_, fun b o hb h0 ho => ?_⟩, fun b hb => hn b (h1 b hb), fun b o hb => ?_, h3.relab hn (fun b o ho hb => ?_), h4.share hr hn⟩
  · obtain ⟨e1, e2⟩ := hc.none b hb h0; exact ⟨e1, hn b e2⟩
  · obtain ⟨e1, e2⟩ := hc.keep b o hb h0 ho
    refine ⟨e1, ?_⟩
    have : o ≠ .res := by
      intro e; subst e
      rcases hlab b _ h0 with h | h
      · simp [isBoxO] at h
      · simp at h
    rw [hk b (by rw [e2]; simpa using this)]; exact e2
  · by_cases hb2 : ω' b = some .res
    · rw [hr b hb2] at hb; simp at hb
    · rw [hk b hb2] at hb; exact h2 b o hb
  · rw [hk b (by rw [hb]; intro e; injection e with e; subst e; simp [isBoxO] at ho)]; exact hb

/-- The road to a contract of a function that no pointer is handed to. -/
theorem spec_of0 {P : Program} {f : FuncId} {fn : Func} {c : Code} {args : List MV} {r : Res} {nt : Nat} {rs : List ResultVar} (hf : P.funcs[f]? = some fn) (hb : fn.body = some c) (hnt : fn.ntmps = nt) (hrs : fn.results.toList = rs) (hname : (fn.name == "runtime.NumGoroutine") = false) (hna : args.length ≤ nt) (hnp : ∀ x ∈ r, np x.2 = true) (hna2 : ∀ x ∈ args, np x = true)
    (h : PW P nt c ⟨argsV 0 args, []⟩ (postP P rs r)) : Spec P f args r := by
  subst hnt; subst hrs
  refine ⟨fun as w => ?_, fun γ ω w vs hl hv hlt hres => ?_⟩
  · have h1 : fn.name ≠ "runtime.NumGoroutine" := by simpa using hname
    simp [callFunc, hf, h1, hb, mark]
  let ωc : Own := fun b => match ω b with | none => none | some _ => some .outer
  have hsh : ∀ b, ω b = none → ωc b = none := fun b hb => by simp [ωc, hb]
  have hR : Rel [] ωc w fn.ntmps ⟨argsV 0 args, []⟩ { tmps := vs.toArray ++ Array.replicate (fn.ntmps - vs.toArray.size) undef, defers := [] } := by
    refine ⟨by simp; omega, rfl, fun b hb => by simp [ωc, hlt b hb], ⟨by simp, fun k cs hk => by simp at hk⟩, fun s => ?_⟩
    · simp only
      rw [lk_argsV]
      simp only [Nat.zero_le, if_true, Nat.sub_zero]
      cases hm : args[s]? with
      | none => trivial
      | some m =>
        have hs : s < vs.length := by rw [hl]; exact (List.getElem?_eq_some_iff.1 hm).1
        have e : (vs.toArray ++ Array.replicate (fn.ntmps - vs.toArray.size) undef).getD s undef = vs[s] := by
          rw [Array.getD_eq_getD_getElem?, Array.getElem?_append_left (by simpa using hs)]
          simp [hs]
        rw [e]
        exact ((hv s m vs[s] hm (List.getElem?_eq_getElem hs)).relabel hsh).np (hna2 m (List.mem_of_getElem? hm))
  refine calls_of_wp hf hb (h [] ωc w _ _ hR (fun e γ' ω' w' st' a' h1 h2 h3 => ?_))
  have hpost : resP P st' fn.results.toList r := by cases e <;> first | exact h3 | exact h3.elim
  obtain ⟨us, g1, g2, g3⟩ := resP_ok h2 hpost
  obtain ⟨v, hrun, hv1, hv2⟩ := results_run g2
  have heap : ∀ b, b < w.heap.size → w'.heap[b]? = w.heap[b]? := by
    intro b hb'
    cases hω : ωc b with
    | none => exact (h1.none b hb' hω).1
    | some o =>
      have ho : o = .outer := by
        simp only [ωc] at hω
        split at hω
        · exact absurd hω (by simp)
        · injection hω with hω; exact hω.symm
      subst ho
      exact (h1.keep b _ hb' hω (fun h => h rfl)).1
  have hold' : ∀ b, b < w.heap.size → ωc b = none → ω' b = none := fun b hb' h0 => (h1.none b hb' h0).2
  have hold'' : ∀ b, b < w.heap.size → ∀ o, ωc b = some o → ω' b = some .outer := by
    intro b hb' o hω
    have ho : o = .outer := by
      simp only [ωc] at hω
      split at hω
      · exact absurd hω (by simp)
      · injection hω with hω; exact hω.symm
    subst ho
    exact (h1.keep b _ hb' hω (fun h => h rfl)).2
  let ωr : Own := fun b => if b < w.heap.size then ω b else match ω' b with | none => none | some (.slot _) => some .res | some _ => some .outer
  have hltr : ∀ b, w'.heap.size ≤ b → ωr b = none := by
    intro b hb'
    have : ¬ b < w.heap.size := by have := h1.size; omega
    simp only [ωr, if_neg this, h2.lt b hb']
  have hshr : ∀ b, ω' b = none → ωr b = none := by
    intro b hb'
    simp only [ωr]
    split
    · rename_i hlt'
      cases hω : ωc b with
      | none =>
        simp only [ωc] at hω
        split at hω
        · assumption
        · exact absurd hω (by simp)
      | some o => rw [hold'' b hlt' o hω] at hb'; exact absurd hb' (by simp)
    · rw [hb']
  have hitem : ∀ (x : Option Nat × MV) (u : Value), np x.2 = true → resU γ' ω' w' st' a'.tmps x u → ResI γ ωr w' x u := by
    rintro ⟨x1, x2⟩ u hnx (⟨s, hs, rfl⟩ | ⟨rfl, hr⟩)
    rotate_left
    · exact (hr.relabel hshr).np hnx
    have hslot := h2.slots s
    have hownr : ∀ b, ω' b = some (.slot s) → ωr b = some .res := by
      intro b hb'
      simp only [ωr]
      split
      · rename_i hlt'
        cases hω : ωc b with
        | none => rw [hold' b hlt' hω] at hb'; exact absurd hb' (by simp)
        | some o => rw [hold'' b hlt' o hω] at hb'; exact absurd hb' (by simp)
      · rw [hb']
    have hown : ∀ {sz : Nat} {m : MV} {u : Value}, np m = true → OwnRep γ' ω' w' (.slot s) sz m u → OwnRep γ ωr w' .res sz m u := by
      intro sz m u hn hu
      cases hu with
      | list es _ e2 xs hr2 hcl ho =>
        refine .list sz es u e2 xs hr2 ⟨hcl.len, hcl.wid, hcl.one, fun j e hj i c hi => ?_⟩ (fun b hb => ⟨hownr b (ho b hb).1, (ho b hb).2⟩)
        obtain ⟨u', h1, h2⟩ := hcl.rep j e hj i c hi
        exact ⟨u', h1, (h2.relabel hshr).np (npL_get (npLL_get (by simpa [np] using hn) j e hj) i c hi)⟩
      | map m blk es clock ho hltb hb he =>
        exact .map sz m blk es clock (hownr blk ho) hltb hb ⟨he.len, he.key, fun i x e hx hee => ((he.val i x e hx hee).relabel hshr).np (npE_get (by simpa [np] using hn) i x hx), he.born, he.nodup⟩
    cases hc : lk st'.v s with
    | sh m' =>
      rw [hc] at hs hslot
      cases x1 with
      | none =>
        have hr : Rep γ' ω' w' x2 (a'.tmps.getD s undef) := by
          rcases hs with hs | hs
          · subst hs; exact hslot
          · subst hs; exact Rep.top hslot
        exact (hr.relabel hshr).np hnx
      | some sz =>
        cases m' with
        | nil =>
          cases x2 with
          | list es =>
            cases es with
            | nil =>
              have hv : a'.tmps.getD s undef = .slice none 0 0 := by
                have : Rep γ' ω' w' .nil (a'.tmps.getD s undef) := hslot
                generalize a'.tmps.getD s undef = v at this ⊢
                cases this; rfl
              rw [hv]
              exact OwnRep.list sz [] _ 0 [] (World.ownsRow_nil w' 0 0 sz) ⟨by simp, by simp, by simp, by simp⟩ (fun b hb => by simp [Value.ownBlock] at hb)
            | cons => simp [resI] at hs
          | _ => simp [resI] at hs
        | _ => cases x2 <;> simp [resI] at hs
    | own sz' m' =>
      rw [hc] at hs hslot
      cases x1 with
      | none => simp [resI] at hs
      | some sz =>
        have h1 : sz' = sz ∧ m' = x2 := hs
        obtain ⟨e1, e2⟩ := h1
        subst e1; subst e2
        exact hown hnx hslot
    | _ => rw [hc] at hs; cases x1 <;> simp [resI] at hs
  have key : a'.defers = [] ∧ ∃ v, (results fn a'.tmps).run P w' = .ok v w' ∧ ∃ v' ω', Ending.returned v = .returned v' ∧ Chg (fun _ => False) γ ω w γ ω' w' ∧ (∀ b, w'.heap.size ≤ b → ω' b = none) ∧ (∀ b, b < w.heap.size → ω' b = ω b) ∧
      (∀ b, w.heap.size ≤ b → ω' b = none ∨ ω' b = some .outer ∨ ω' b = some .res) ∧ ResRep γ ω' w' r v' := by
    refine ⟨h2.defers, v, hrun, v, ωr, rfl, ⟨h1.os, h1.tape, h1.output, h1.size, fun _ _ h => h, fun b hb h0 => ⟨heap b hb, by simp only [ωr, if_pos hb]; exact h0⟩, fun b o hb h0 _ => ⟨heap b hb, by simp only [ωr, if_pos hb]; exact h0⟩⟩, hltr, fun b hb => by simp only [ωr, if_pos hb], ?_, ?_⟩
    · intro b hb
      have : ¬ b < w.heap.size := by omega
      simp only [ωr, if_neg this]
      split
      · exact .inl rfl
      · exact .inr (.inr rfl)
      · exact .inr (.inl rfl)
    · match r, us, g1 with
      | [x], [u], _ =>
        show ResI γ ωr w' x v
        rw [hv1 u rfl]
        exact hitem x u (hnp x (by simp)) (g3 0 x u rfl rfl)
      | [], [], _ => exact ⟨[], hv2 (by simp), rfl, by simp⟩
      | x :: y :: q, us, g1 =>
        refine ⟨us, hv2 (by rw [g1]; simp), g1, fun i z u hz hu => hitem z u (hnp z (List.mem_of_getElem? hz)) (g3 i z u hz hu)⟩
  cases e with
  | normal => exact key
  | ret => exact key
  | exit id => exact h3.elim


theorem plc_ss (a b : Nat) : (Place.slot a == Place.slot b) = decide (a = b) := by
  by_cases h : a = b
  · subst h; simp
  · simp [h]
theorem plc_sc (a k o : Nat) : (Place.slot a == Place.cell k o) = false := by rfl
theorem plc_cs (a k o : Nat) : (Place.cell k o == Place.slot a) = false := by rfl
theorem plc_cc (a b k o : Nat) : (Place.cell a b == Place.cell k o) = (decide (a = k) && decide (b = o)) := by
  by_cases h : a = k
  · by_cases h2 : b = o
    · subst h; subst h2; simp
    · simp [h, h2]
  · simp [h]
theorem bin_aeq (P : Program) (T : TypeId) (xs ys : List MV) (H : MV → Prop) : binP P .eql T (.agg xs) (.agg ys) H = (match eqTy P T with
    | some ts => match eqCells ts xs ys with
      | some b => H (.bool b)
      | none => False
    | none => False) := rfl
theorem bin_ane (P : Program) (T : TypeId) (xs ys : List MV) (H : MV → Prop) : binP P .neq T (.agg xs) (.agg ys) H = (match eqTy P T with
    | some ts => match eqCells ts xs ys with
      | some b => H (.bool (!b))
      | none => False
    | none => False) := rfl
attribute [push_cast] bin_aeq bin_ane Bool.and_self
attribute [push_cast] Option.isNone_none plc_ss plc_sc plc_cs plc_cc
end Go.Pv

end M32
section M33
/- A library of this session: boxes of one's own behind those that came in; a contract over one box is one over many. -/
set_option linter.unusedVariables false
set_option linter.unusedSimpArgs false
namespace Go.Pv

def npC : Ct → Bool
  | .sh m => np m
  | .dead => true
  | _ => false

/-- Boxes that hold shared things without pointers. -/
def npB (b : Option (List Ct)) : Prop := ∀ cs, b = some cs → ∀ c ∈ cs, npC c = true

def npR (r : Res) : Prop := ∀ x ∈ r, x.1 = none ∧ np x.2 = true

theorem ResRep.npx {γ γ' : List Nat} {ω ω' : Own} {w : World} (hn : ∀ b, ω b = none → ω' b = none) {r : Res} (hr : npR r) {v : Value} (h : ResRep γ ω w r v) : ResRep γ' ω' w r v := by
  have one : ∀ x ∈ r, ∀ u, ResI γ ω w x u → ResI γ' ω' w x u := by
    rintro ⟨x1, x2⟩ hx u hu
    obtain ⟨h1, h2⟩ := hr _ hx
    simp only at h1 h2
    subst h1
    have hu' : Rep γ ω w x2 u := hu
    exact (hu'.relabel hn).np h2
  match r, h with
  | [x], h => exact one x (by simp) v h
  | [], h =>
    obtain ⟨vs, h1, h2, h3⟩ := h
    exact ⟨vs, h1, h2, by simp⟩
  | x :: y :: q, h =>
    obtain ⟨vs, h1, h2, h3⟩ := h
    exact ⟨vs, h1, h2, fun i z u hz hu => one z (List.mem_of_getElem? hz) u (h3 i z u hz hu)⟩

theorem SpecB.frame {P : Program} {f : FuncId} {args : List MV} {r : Res} {off : Nat} {b b' : Option (List Ct)} (h : SpecB P f (.ptr 0 off :: args) [b] r [b']) (ha : ∀ x ∈ args, np x = true) (hr : npR r) (hb : npB b) (hb' : npB b')
    {B : List (Option (List Ct))} {k : Nat} (hB : B[k]? = some b) : SpecB P f (.ptr k off :: args) B r (B.set k b') := by
  refine ⟨h.1, fun γ ω w vs hl hv hlt hlab hBx => ?_⟩
  have hkB : k < B.length := (List.getElem?_eq_some_iff.1 hB).1
  have hkγ : k < γ.length := by rw [← hBx.len]; exact hkB
  obtain ⟨blk, hblk⟩ : ∃ blk, γ[k]? = some blk := ⟨_, List.getElem?_eq_getElem hkγ⟩
  let rl : Owner → Owner := fun o => match o with
    | .box j => if j = k then .box 0 else .outer
    | .cell j i => if j = k then .cell 0 i else .outer
    | o => o
  let ωs : Own := fun x => (ω x).map rl
  have hn : ∀ x, ω x = none → ωs x = none := fun x hx => by simp [ωs, hx]
  have hn2 : ∀ x, ωs x = none → ω x = none := fun x hx => by simpa [ωs] using hx
  have hvs : ∀ (i : Nat) (c : MV) (v : Value), (MV.ptr 0 off :: args)[i]? = some c → vs[i]? = some v → Rep [blk] ωs w c v := by
    intro i c v hc hvv
    cases i with
    | zero =>
      simp only [List.getElem?_cons_zero, Option.some.injEq] at hc
      subst hc
      have h0 := hv 0 (.ptr k off) v rfl hvv
      cases h0 with
      | ptr _ _ bb hbb =>
        rw [hblk] at hbb; injection hbb with hbb; subst hbb
        exact .ptr 0 off blk rfl
    | succ i =>
      have hc' : args[i]? = some c := by simpa using hc
      exact ((hv (i + 1) c v (by simpa using hc') hvv).relabel hn).np (ha c (List.mem_of_getElem? hc'))
  have hBs : Boxes [blk] ωs w [b] := by
    refine ⟨rfl, fun j cs hj => ?_⟩
    cases j with
    | succ j => simp at hj
    | zero =>
      simp only [List.getElem?_cons_zero, Option.some.injEq] at hj
      subst hj
      obtain ⟨blk2, cur, e, h1, h2, h3, h4, h5, h6⟩ := hBx.box k cs hB
      rw [hblk] at h1; injection h1 with h1; subst h1
      refine ⟨blk, cur, e, rfl, h2, by simp [ωs, rl, h3], h4, h5, fun i c hc => ?_⟩
      obtain ⟨u, hu, ho, hbc⟩ := h6 i c hc
      refine ⟨u, hu, ho, ?_⟩
      have hnp := hb cs rfl c (List.mem_of_getElem? hc)
      cases c with
      | sh m => exact ((show Rep γ ω w m u from hbc).relabel hn).np (by simpa [npC] using hnp)
      | dead => trivial
      | _ => simp [npC] at hnp
  refine Calls.mono (h.2 [blk] ωs w vs (by simpa using hl) hvs (fun x hx => hn x (hlt x hx)) (fun x o hx => ?_) hBs) ?_
  · have : ∃ o', ω x = some o' ∧ rl o' = o := by simpa [ωs] using hx
    obtain ⟨o', h1, h2⟩ := this
    subst h2
    rcases hlab x o' h1 with h3 | h3
    · cases o' <;> simp [isBoxO] at h3 <;> simp only [rl] <;> split <;> simp [isBoxO]
    · subst h3; exact .inr rfl
  rintro e w' ⟨v, ω1, rfl, hch, hlt1, hlab1, hB1, hres⟩
  let rk : Owner → Owner := fun o => match o with
    | .box _ => .box k
    | .cell _ i => .cell k i
    | o => o
  let ω' : Own := fun x => if x < w.heap.size ∧ ωs x = some .outer then ω x else (ω1 x).map rk
  have hout : ∀ x, x < w.heap.size → ωs x = some .outer → w'.heap[x]? = w.heap[x]? ∧ ω1 x = some .outer := fun x hx ho => hch.keep x .outer hx ho (by simp [isBoxO])
  have hn1 : ∀ x, ω1 x = none → ω' x = none := by
    intro x hx
    have hno : ¬ (x < w.heap.size ∧ ωs x = some .outer) := fun hh => by rw [(hout x hh.1 hh.2).2] at hx; simp at hx
    simp only [ω', if_neg hno, hx]; rfl
  have hcg : Chg (fun o => o = .box k ∨ ∃ i, o = .cell k i) γ ω w γ ω' w' := by
    refine ⟨hch.os, hch.tape, hch.output, hch.size, fun _ _ h => h, fun x hx h0 => ?_, fun x o hx h0 ho => ?_⟩
    · obtain ⟨e1, e2⟩ := hch.none x hx (hn x h0)
      exact ⟨e1, hn1 x e2⟩
    · have hs : ωs x = some .outer := by
        simp only [ωs, h0, Option.map_some, Option.some.injEq]
        rcases hlab x o h0 with h3 | h3
        · cases o <;> simp [isBoxO] at h3
          · rename_i j; simp only [rl]; rw [if_neg (fun e => ho (.inl (by rw [e])))]
          · rename_i j i; simp only [rl]; rw [if_neg (fun e => ho (.inr ⟨i, by rw [e]⟩))]
        · subst h3; rfl
      obtain ⟨e1, e2⟩ := hout x hx hs
      refine ⟨e1, ?_⟩
      simp only [ω', if_pos (And.intro hx hs)]; exact h0
  refine ⟨v, ω', rfl, hcg.mono (fun o ho => by rcases ho with rfl | ⟨i, rfl⟩ <;> rfl), fun x hx => hn1 x (hlt1 x hx), fun x o hx => ?_, ?_, hres.npx hn1 hr⟩
  · simp only [ω'] at hx
    split at hx
    · rcases hlab x o hx with h3 | h3
      · exact .inl h3
      · exact .inr (.inl h3)
    · cases h1 : ω1 x with
      | none => rw [h1] at hx; simp at hx
      | some o1 =>
        rw [h1] at hx
        simp only [Option.map_some, Option.some.injEq] at hx
        subst hx
        rcases hlab1 x o1 h1 with h3 | h3 | h3
        · left; cases o1 <;> simp [isBoxO] at h3 <;> rfl
        · subst h3; exact .inr (.inl rfl)
        · subst h3; exact .inr (.inr rfl)
  · refine ⟨by rw [List.length_set]; exact hBx.len, fun j cs hj => ?_⟩
    by_cases hjk : k = j
    · subst hjk
      rw [List.getElem?_set_self hkB] at hj
      injection hj with hj
      obtain ⟨blk2, cur, e, h1, h2, h3, h4, h5, h6⟩ := hB1.box 0 cs (by simp [hj])
      simp only [List.getElem?_cons_zero, Option.some.injEq] at h1
      subst h1
      have hnb : ¬ (blk < w.heap.size ∧ ωs blk = some .outer) := fun hh => by
        have := (hout blk hh.1 hh.2).2
        rw [h3] at this; simp at this
      refine ⟨blk, cur, e, hblk, h2, by simp only [ω', if_neg hnb, h3]; rfl, h4, h5, fun i c hc => ?_⟩
      obtain ⟨u, hu, ho, hbc⟩ := h6 i c hc
      refine ⟨u, hu, ho, ?_⟩
      have hnp := hb' cs hj c (List.mem_of_getElem? hc)
      cases c with
      | sh m => exact ((show Rep [blk] ω1 w' m u from hbc).relabel hn1).np (by simpa [npC] using hnp)
      | dead => trivial
      | _ => simp [npC] at hnp
    · rw [List.getElem?_set_ne hjk] at hj
      obtain ⟨blk2, cur, e, h1, h2, h3, h4, h5, h6⟩ := hBx.box j cs hj
      obtain ⟨e1, e2⟩ := hcg.keep blk2 _ h2 h3 (by
        rintro (hh | ⟨i, hh⟩)
        · injection hh with hh; exact hjk hh.symm
        · exact absurd hh (by simp))
      refine ⟨blk2, cur, e, h1, Nat.lt_of_lt_of_le h2 hcg.size, e2, e1.trans h4, h5, fun i c hc => ?_⟩
      obtain ⟨u, hu, ho, hbc⟩ := h6 i c hc
      exact ⟨u, hu, ho, hbc.chg hcg (by
        rintro (hh | ⟨i2, hh⟩)
        · exact absurd hh (by simp)
        · injection hh with hh _; exact hjk hh.symm)⟩

/-! ### Boxes of one's own -/
def postBA (P : Program) (rs : List ResultVar) (r : Res) (B' : List (Option (List Ct))) : PX → St → Prop
  | .normal, st' | .ret, st' => resP P st' rs r ∧ ∃ ex, st'.B = B' ++ ex
  | _, _ => False

theorem specB_ofA {P : Program} {f : FuncId} {fn : Func} {c : Code} {args : List MV} {r : Res} {B B' : List (Option (List Ct))} {nt : Nat} {rs : List ResultVar} (hf : P.funcs[f]? = some fn) (hb : fn.body = some c) (hnt : fn.ntmps = nt) (hrs : fn.results.toList = rs) (hname : (fn.name == "runtime.NumGoroutine") = false) (hna : args.length ≤ nt) (hBB : B'.length = B.length) (hnr : npR r) (hnb : ∀ b ∈ B', npB b)
    (h : PW P nt c ⟨argsV 0 args, B⟩ (postBA P rs r B')) : SpecB P f args B r B' := by
  subst hnt; subst hrs
  refine ⟨fun as w => ?_, fun γ ω w vs hl hv hlt hlab hB => ?_⟩
  · have h1 : fn.name ≠ "runtime.NumGoroutine" := by simpa using hname
    simp [callFunc, hf, h1, hb, mark]
  have hR : Rel γ ω w fn.ntmps ⟨argsV 0 args, B⟩ { tmps := vs.toArray ++ Array.replicate (fn.ntmps - vs.toArray.size) undef, defers := [] } := by
    refine ⟨by simp; omega, rfl, hlt, hB, fun s => ?_⟩
    simp only
    rw [lk_argsV]
    simp only [Nat.zero_le, if_true, Nat.sub_zero]
    cases hm : args[s]? with
    | none => trivial
    | some m =>
      have hs : s < vs.length := by rw [hl]; exact (List.getElem?_eq_some_iff.1 hm).1
      have e : (vs.toArray ++ Array.replicate (fn.ntmps - vs.toArray.size) undef).getD s undef = vs[s] := by
        rw [Array.getD_eq_getD_getElem?, Array.getElem?_append_left (by simpa using hs)]
        simp [hs]
      rw [e]
      exact hv s m vs[s] hm (List.getElem?_eq_getElem hs)
  refine calls_of_wp hf hb (h γ ω w _ _ hR (fun e γ' ω' w' st' a' h1 h2 h3 => ?_))
  have hpost : resP P st' fn.results.toList r ∧ ∃ ex, st'.B = B' ++ ex := by cases e <;> first | exact h3 | exact h3.elim
  obtain ⟨hpost, hstB⟩ := hpost
  obtain ⟨us, g1, g2, g3⟩ := resP_ok h2 hpost
  obtain ⟨v, hrun, hv1, hv2⟩ := results_run g2
  obtain ⟨ex, hstB⟩ := hstB
  let ωr : Own := fun b => match ω' b with | none => none | some (.slot _) => some .res | some .res => some .outer | some o => some o
  have hn : ∀ b, ω' b = none → ωr b = none := fun b hb' => by simp only [ωr, hb']
  have hbx : ∀ b o, isBoxO o = true → ω' b = some o → ωr b = some o := by
    intro b o ho hb'
    simp only [ωr, hb']
    cases o <;> simp [isBoxO] at ho <;> rfl
  have hsl : ∀ b s, ω' b = some (.slot s) → ωr b = some .res := fun b s hb' => by simp only [ωr, hb']
  have hitem : ∀ (x : Option Nat × MV) (u : Value), resU γ' ω' w' st' a'.tmps x u → ResI γ' ωr w' x u := by
    rintro ⟨x1, x2⟩ u (⟨s, hs, rfl⟩ | ⟨rfl, hr⟩)
    rotate_left
    · exact hr.relabel hn
    have hslot := h2.slots s
    cases hc : lk st'.v s with
    | sh m' =>
      rw [hc] at hs hslot
      cases x1 with
      | none =>
        have hr : Rep γ' ω' w' x2 (a'.tmps.getD s undef) := by
          rcases hs with hs | hs
          · subst hs; exact hslot
          · subst hs; exact Rep.top hslot
        exact hr.relabel hn
      | some sz =>
        cases m' with
        | nil =>
          cases x2 with
          | list es =>
            cases es with
            | nil =>
              have hv : a'.tmps.getD s undef = .slice none 0 0 := by
                have : Rep γ' ω' w' .nil (a'.tmps.getD s undef) := hslot
                generalize a'.tmps.getD s undef = v at this ⊢
                cases this; rfl
              rw [hv]
              exact OwnRep.list sz [] _ 0 [] (World.ownsRow_nil w' 0 0 sz) ⟨by simp, by simp, by simp, by simp⟩ (fun b hb => by simp [Value.ownBlock] at hb)
            | cons => simp [resI] at hs
          | _ => simp [resI] at hs
        | _ => cases x2 <;> simp [resI] at hs
    | own sz' m' =>
      rw [hc] at hs hslot
      cases x1 with
      | none => simp [resI] at hs
      | some sz =>
        have h1 : sz' = sz ∧ m' = x2 := hs
        obtain ⟨e1, e2⟩ := h1
        subst e1; subst e2
        exact OwnRep.relab hn (fun b hb => hsl b s hb) hslot
    | _ => rw [hc] at hs; cases x1 <;> simp [resI] at hs
  have key : a'.defers = [] ∧ ∃ v, (results fn a'.tmps).run P w' = .ok v w' ∧ ∃ v' ω', Ending.returned v = .returned v' ∧ Chg (fun o => isBoxO o = true) γ ω w γ ω' w' ∧ (∀ b, w'.heap.size ≤ b → ω' b = none) ∧
      (∀ b o, ω' b = some o → isBoxO o = true ∨ o = .outer ∨ o = .res) ∧ Boxes γ ω' w' B' ∧ ResRep γ ω' w' r v' := by
    refine ⟨h2.defers, v, hrun, v, ωr, rfl, ⟨h1.os, h1.tape, h1.output, h1.size, fun _ _ h => h, fun b hb' h0 => ?_, fun b o hb' h0 hno => ?_⟩, fun b hb' => hn b (h2.lt b hb'), fun b o hb' => ?_, ?_, ?_⟩
    · obtain ⟨e1, e2⟩ := h1.none b hb' h0
      exact ⟨e1, hn b e2⟩
    · have ho : o = .outer := by
        rcases hlab b o h0 with h | h
        · exact absurd h hno
        · exact h
      subst ho
      obtain ⟨e1, e2⟩ := h1.keep b _ hb' h0 (fun h => h rfl)
      exact ⟨e1, by simp only [ωr, e2]⟩
    · simp only [ωr] at hb'
      split at hb'
      · exact absurd hb' (by simp)
      · injection hb' with hb'; exact .inr (.inr hb'.symm)
      · injection hb' with hb'; exact .inr (.inl hb'.symm)
      · rename_i o' hn1 hn2 hw
        injection hb' with hb'; subst hb'
        cases o' with
        | box k => exact .inl rfl
        | cell k i => exact .inl rfl
        | outer => exact .inr (.inl rfl)
        | slot s => exact absurd rfl (hn1 s)
        | res => exact absurd rfl hn2
    · have hbb := h2.boxes.relab hn hbx
      rw [hstB] at hbb
      refine ⟨by rw [hBB]; exact hB.len, fun k cs hk => ?_⟩
      have hkl := (List.getElem?_eq_some_iff.1 hk).1
      obtain ⟨blk, cur, e, q1, q2, q3, q4, q5, q6⟩ := hbb.box k cs (by rw [List.getElem?_append_left hkl]; exact hk)
      have hkγ : k < γ.length := by rw [← hB.len, ← hBB]; exact hkl
      have hγk : γ[k]? = some blk := by
        have h3 := h1.pre k γ[k] (List.getElem?_eq_getElem hkγ)
        rw [q1] at h3; injection h3 with h3
        rw [List.getElem?_eq_getElem hkγ, h3]
      refine ⟨blk, cur, e, hγk, q2, q3, q4, q5, fun i c hc => ?_⟩
      obtain ⟨u, hu, ho, hbc⟩ := q6 i c hc
      refine ⟨u, hu, ho, ?_⟩
      have hnp := hnb _ (List.mem_of_getElem? hk) cs rfl c (List.mem_of_getElem? hc)
      cases c with
      | sh m => exact (show Rep γ' ωr w' m u from hbc).np (by simpa [npC] using hnp)
      | dead => trivial
      | _ => simp [npC] at hnp
    · refine ResRep.npx (γ := γ') (fun _ h => h) hnr ?_
      clear hnr h3 hpost
      match r, us, g1 with
      | [x], [u], _ =>
        show ResI γ' ωr w' x v
        rw [hv1 u rfl]
        exact hitem x u (g3 0 x u rfl rfl)
      | [], [], _ => exact ⟨[], hv2 (by simp), rfl, by simp⟩
      | x :: y :: q, us, g1 =>
        refine ⟨us, hv2 (by rw [g1]; simp), g1, fun i z u hz hu => hitem z u (g3 i z u hz hu)⟩
  cases e with
  | normal => exact key
  | ret => exact key
  | exit id => exact h3.elim



theorem cat1_get {α : Type} (l : List α) (a : α) : (l ++ [a])[l.length]? = some a := by simp
theorem cat1_set {α : Type} (l : List α) (a b : α) : (l ++ [a]).set l.length b = l ++ [b] := by
  induction l with
  | nil => rfl
  | cons x r ih => simp only [List.cons_append, List.length_cons, List.set_cons_succ, ih]
theorem cat2_get1 {α : Type} (l : List α) (a b : α) : (l ++ [a] ++ [b])[l.length + 1]? = some b := by
  have := cat1_get (l ++ [a]) b
  rw [List.length_append] at this
  exact this
theorem cat2_get0 {α : Type} (l : List α) (a b : α) : (l ++ [a] ++ [b])[l.length]? = some a := by simp
theorem cat2_set1 {α : Type} (l : List α) (a b c : α) : (l ++ [a] ++ [b]).set (l.length + 1) c = l ++ [a] ++ [c] := by
  have := cat1_set (l ++ [a]) b c
  rw [List.length_append] at this
  exact this
theorem cat2_set0 {α : Type} (l : List α) (a b c : α) : (l ++ [a] ++ [b]).set l.length c = l ++ [c] ++ [b] := by
  induction l with
  | nil => rfl
  | cons x r ih => simp only [List.cons_append, List.length_cons, List.set_cons_succ, ih]
attribute [push_cast] cat1_get cat1_set cat2_get0 cat2_get1 cat2_set0 cat2_set1 List.length_append postBA ownPl shNil bytesT St.spend nilness
end Go.Pv

end M33
section M34
/- A library of this session: a variable in memory that turns no more. -/
set_option linter.unusedVariables false
set_option linter.unusedSimpArgs false
namespace Go.Pv

theorem shs_get : ∀ {cs : List Ct} {ms : List MV}, shs cs = some ms → cs = ms.map .sh := fun h => shs_rep (k := 0) h

theorem Rel.freeze {γ : List Nat} {ω : Own} {w : World} {nt : Nat} {st : St} {a : Act} (h : Rel γ ω w nt st a) {k t : Nat} {cs : List Ct} {ms : List MV} (ht : lk st.v t = .sh (.ptr k 0)) (hk : st.B[k]? = some (some cs)) (hms : shs cs = some ms) :
    ∃ ω', Chg NotOuter γ ω w γ ω' w ∧ Rel γ ω' w nt ⟨pt st.v t (.sh (.cptr ms 0)), st.B.set k none⟩ a := by
  have hcs := shs_get hms
  obtain ⟨blk, cur, e, h1, h2, h3, h4, h5, h6⟩ := h.boxes.box k cs hk
  let ω' : Own := fun b => if b = blk then none else ω b
  have hn : ∀ b, ω b = none → ω' b = none := fun b hb => by simp only [ω']; split <;> first | rfl | exact hb
  have hc : Chg (fun o => o = .box k) γ ω w γ ω' w := ⟨rfl, rfl, rfl, Nat.le_refl _, fun _ _ h => h, fun b hb h0 => ⟨rfl, hn b h0⟩, fun b o hb h0 hno => ⟨rfl, by
    have : b ≠ blk := fun e => by subst e; rw [h3] at h0; injection h0 with h0; exact hno h0.symm
    simp only [ω', if_neg this]; exact h0⟩⟩
  have hat : ∀ p sz m, st.at p = .own sz m → (⟨pt st.v t (.sh (.cptr ms 0)), st.B.set k none⟩ : St).at p = .own sz m := by
    intro p sz m hp
    cases p with
    | slot s =>
      simp only [St.at] at hp ⊢
      rw [lk_pt]
      by_cases e : t = s
      · subst e; rw [ht] at hp; exact absurd hp (by simp)
      · rw [if_neg e]; exact hp
    | cell j off =>
      obtain ⟨ds, q1, q2⟩ := at_cell hp
      have hne : k ≠ j := by
        intro e
        subst e
        rw [hk] at q1; injection q1 with q1; injection q1 with q1
        subst q1
        rw [hcs, List.getElem?_map] at q2
        cases hq : ms[off]? <;> rw [hq] at q2 <;> simp at q2
      simp only [St.at] at hp ⊢
      rw [List.getElem?_set_ne hne]; exact hp
  refine ⟨ω', hc.mono (fun o ho => by subst ho; simp [NotOuter]), h.size, h.defers, fun b hb => hn b (h.lt b hb), ⟨by rw [List.length_set]; exact h.boxes.len, fun j ds hj => ?_⟩, fun s => ?_⟩
  · by_cases hjk : k = j
    · subst hjk
      have hlt : k < st.B.length := (List.getElem?_eq_some_iff.1 hk).1
      rw [List.getElem?_set_self hlt] at hj
      exact absurd hj (by simp)
    · rw [List.getElem?_set_ne hjk] at hj
      obtain ⟨blk2, cur2, e2, g1, g2, g3, g4, g5, g6⟩ := h.boxes.box j ds hj
      obtain ⟨q1, q2⟩ := hc.keep blk2 _ g2 g3 (by intro hh; injection hh with hh; exact hjk hh.symm)
      refine ⟨blk2, cur2, e2, g1, g2, q2, g4, g5, fun i c hi => ?_⟩
      obtain ⟨u, hu, ho, hb⟩ := g6 i c hi
      exact ⟨u, hu, ho, hb.chg hc (by simp)⟩
  · have hold := h.slots s
    simp only
    rw [lk_pt]
    by_cases e : t = s
    · subst e
      rw [if_pos rfl]
      rw [ht] at hold
      have hv : a.tmps.getD t undef = .pointer (some ⟨blk, 0, none⟩) := by
        have hr : Rep γ ω w (.ptr k 0) (a.tmps.getD t undef) := hold
        generalize a.tmps.getD t undef = v at hr
        cases hr with
        | ptr _ _ b hb => rw [h1] at hb; injection hb with hb; subst hb; rfl
      rw [hv]
      show Rep γ ω' w (.cptr ms 0) (.pointer (some ⟨blk, 0, none⟩))
      have hrep : ∀ (i : Nat) (c : MV), ms[i]? = some c → ∃ u, cur[i]? = some u ∧ u.oneCell' = true ∧ Rep γ ω w c u := by
        intro i c hi
        obtain ⟨u, hu, ho, hb⟩ := h6 i (.sh c) (by rw [hcs, List.getElem?_map, hi]; rfl)
        exact ⟨u, hu, ho, hb⟩
      have key := Rep.cptr (γ := γ) (ω := ω') (w := w) ms 0 blk 0 (fun i => cur.getD i undef) (by simp [ω']) h2 (fun i c hi => by
          obtain ⟨u, hu, ho, _⟩ := hrep i c hi
          have hg : cur.getD i undef = u := by rw [Array.getD_eq_getD_getElem?, hu]; rfl
          rw [hg]
          refine ⟨?_, ho⟩
          unfold World.cell?
          simp only [h4, Nat.zero_add]
          exact hu) (fun i c hi => by
          obtain ⟨u, hu, ho, hb⟩ := hrep i c hi
          have hg : cur.getD i undef = u := by rw [Array.getD_eq_getD_getElem?, hu]; rfl
          rw [hg]; exact hb.relabel hn)
      exact key
    · rw [if_neg e]
      cases hcc : lk st.v s with
      | sh m => rw [hcc] at hold; exact (show Rep γ ω w m _ from hold).relabel hn
      | own sz m => rw [hcc] at hold; exact (show OwnRep γ ω w (.slot s) sz m _ from hold).chg hc (by simp)
      | al p =>
        rw [hcc] at hold
        obtain ⟨⟨sz, m, q1⟩, q2⟩ := hold
        exact ⟨⟨sz, m, hat p sz m q1⟩, q2⟩
      | eadr p i o =>
        rw [hcc] at hold
        obtain ⟨sz, es, u, b, q1, q2⟩ := hold
        exact ⟨sz, es, u, b, hat p _ _ q1, q2⟩
      | tupc ds =>
        rw [hcc] at hold
        obtain ⟨vs, q1, q2, q3⟩ := hold
        refine ⟨vs, q1, q2, fun i c u hi hu => ?_⟩
        have := q3 i c u hi hu
        obtain ⟨c1, c2⟩ := c
        cases c1 with
        | none => exact (show Rep γ ω w c2 u from this).relabel hn
        | some sz => exact (show OwnRep γ ω w (.slot s) sz c2 u from this).chg hc (by simp)
      | siter s' pos =>
        rw [hcc] at hold
        obtain ⟨b, q1, q2, q3, q4⟩ := hold
        exact ⟨b, q1, (hc.keep b _ q3 q2 (by simp)).2, q3, q4⟩
      | dead => trivial

theorem PW.freeze {P : Program} {nt : Nat} {st : St} {Q : PX → St → Prop} {c : Code} (k t : Nat) {cs : List Ct} {ms : List MV} (ht : lk st.v t = .sh (.ptr k 0)) (hk : st.B[k]? = some (some cs)) (hms : shs cs = some ms) (h : PW P nt c ⟨pt st.v t (.sh (.cptr ms 0)), st.B.set k none⟩ Q) : PW P nt c st Q := by
  intro γ ω w a R hr hq
  obtain ⟨ω', h1, h2⟩ := hr.freeze ht hk hms
  exact h γ ω' w a R h2 (fun e γ2 ω2 w2 st2 a2 g1 g2 g3 => hq e _ _ _ _ _ (h1.trans g1) g2 g3)

end Go.Pv

end M34
