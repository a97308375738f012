/- The library of this work, H texts, part P: regions whose order is open: what may wait. -/
import Derived.Test.YtlfbfhgoehndpaaGreatDoorHO
import Derived.Orders
set_option linter.unusedVariables false
set_option linter.unusedSimpArgs false
namespace Go.Pv

def pureK : Op → Bool
  | .move _ | .binOp .. | .pick .. | .unOp .. | .convert .. | .extract .. | .load .. | .fieldAddr .. | .field .. | .indexAddr .. | .index .. | .slice .. | .lookup .. | .nilCheck .. | .makeFunc .. => true
  | .call c => match c.callee with
    | .builtin .len | .builtin .min | .builtin .max => true
    | _ => false
  | _ => false

section
variable {P : Program} {st st' : St} {K : MV → Prop}

/-- The same at these operands. -/
def SameAt (st st' : St) (xs : List Operand) : Prop := st'.B = st.B ∧ ∀ x ∈ xs, ∀ t, x = .tmp t → lk st'.v t = lk st.v t
theorem SameAt.lk {xs : List Operand} (h : SameAt st st' xs) {t : Nat} (ht : Operand.tmp t ∈ xs) : Go.Pv.lk st'.v t = Go.Pv.lk st.v t := h.2 _ ht t rfl
theorem SameAt.rdc {xs : List Operand} (h : SameAt st st' xs) (m : MV) : Go.Pv.rdc st' m = Go.Pv.rdc st m := by
  cases m <;> simp only [Go.Pv.rdc, h.1]
theorem SameAt.opv {xs : List Operand} (h : SameAt st st' xs) {x : Operand} (hx : x ∈ xs) : Go.Pv.opv st' x = Go.Pv.opv st x := by
  cases x with
  | tmp t => simp only [Go.Pv.opv]; rw [h.lk hx, h.rdc]
  | _ => rfl
theorem SameAt.shv {xs : List Operand} (h : SameAt st st' xs) {x : Operand} (hx : x ∈ xs) : Go.Pv.shv st' x = Go.Pv.shv st x := by
  cases x with
  | tmp t => simp only [Go.Pv.shv]; rw [h.lk hx]
  | _ => rfl
theorem SameAt.opvs {xs : List Operand} (h : SameAt st st' xs) : ∀ {ys : List Operand}, (∀ y ∈ ys, y ∈ xs) → Go.Pv.opvs st' ys = Go.Pv.opvs st ys
  | [], _ => rfl
  | y :: r, hy => by
    simp only [Go.Pv.opvs]
    rw [h.opv (hy y (by simp)), h.opvs (fun z hz => hy z (by simp [hz]))]
theorem SameAt.shvs {xs : List Operand} (h : SameAt st st' xs) : ∀ {ys : List Operand}, (∀ y ∈ ys, y ∈ xs) → Go.Pv.shvs st' ys = Go.Pv.shvs st ys
  | [], _ => rfl
  | y :: r, hy => by
    simp only [Go.Pv.shvs]
    rw [h.shv (hy y (by simp)), h.shvs (fun z hz => hy z (by simp [hz]))]
theorem SameAt.bnd {xs : List Operand} (h : SameAt st st' xs) {x : Option Operand} (n : Nat) (hx : ∀ y, x = some y → y ∈ xs) : bndOf st' n x = bndOf st n x := by
  cases x with
  | none => rfl
  | some y => simp only [bndOf]; rw [h.opv (hx y rfl)]
theorem SameAt.nil {xs : List Operand} (h : SameAt st st' xs) {x : Operand} (hx : x ∈ xs) : nilness st' x = nilness st x := by
  cases x with
  | tmp t => simp only [nilness]; rw [h.lk hx]
  | _ => rfl
theorem SameAt.nilL {xs : List Operand} (h : SameAt st st' xs) {x : Operand} (hx : x ∈ xs) : Go.Pv.nilL st' x = Go.Pv.nilL st x := by
  cases x with
  | tmp t => simp only [Go.Pv.nilL]; rw [h.lk hx, h.1]
  | _ => rfl
theorem SameAt.len {xs : List Operand} (h : SameAt st st' xs) (kd : TK) (m : MV) : lenC st' kd m = lenC st kd m := by
  cases kd <;> cases m <;> simp only [lenC, h.1]

theorem SameAt.pure {op : Op} (h : SameAt st st' op.operands.toList) : pureP P st' op K = pureP P st op K := by
  cases op with
  | move x => simp only [pureP, movP]; rw [h.shv (by simp [Op.operands])]
  | binOp op T x y yT =>
    simp only [pureP, binE]
    rw [h.nil (x := x) (by simp [Op.operands]), h.nilL (x := x) (by simp [Op.operands]), h.opv (x := x) (by simp [Op.operands]), h.opv (x := y) (by simp [Op.operands])]
  | pick c x y =>
    simp only [pureP]
    rw [h.opv (x := c) (by simp [Op.operands]), h.shv (x := x) (by simp [Op.operands]), h.shv (x := y) (by simp [Op.operands])]
  | unOp op T x => simp only [pureP]; rw [h.opv (by simp [Op.operands])]
  | convert s d x => simp only [pureP]; rw [h.opv (by simp [Op.operands])]
  | extract x i =>
    simp only [pureP, extP]
    cases x with
    | tmp t => simp only; rw [h.lk (by simp [Op.operands])]
    | _ => rfl
  | load T x =>
    simp only [pureP, loadP]
    cases x with
    | tmp t => simp only; rw [h.lk (by simp [Op.operands]), h.1]
    | _ => rfl
  | fieldAddr T x f =>
    simp only [pureP, faP]
    cases x with
    | tmp t => simp only; rw [h.lk (by simp [Op.operands])]
    | _ => rfl
  | field T x f => simp only [pureP, fieldP]; rw [h.opv (by simp [Op.operands])]
  | indexAddr T x i =>
    simp only [pureP, iaP]
    rw [h.opv (x := i) (by simp [Op.operands])]
    cases x with
    | tmp t => simp only; rw [h.lk (by simp [Op.operands]), h.1]
    | _ => rfl
  | index T x i => simp only [pureP, idxP]; rw [h.opv (x := x) (by simp [Op.operands]), h.opv (x := i) (by simp [Op.operands])]
  | slice T x lo hi mx =>
    cases mx with
    | some m => rfl
    | none =>
      simp only [pureP, sliceP]
      have e1 : ∀ n, bndOf st' n lo = bndOf st n lo := fun n => h.bnd n (fun y hy => by subst hy; simp [Op.operands])
      have e2 : ∀ n, bndOf st' n hi = bndOf st n hi := fun n => h.bnd n (fun y hy => by subst hy; simp [Op.operands])
      rw [h.opv (x := x) (by simp [Op.operands])]
      simp only [e1, e2]
      cases x with
      | tmp t => simp only; rw [h.lk (by simp [Op.operands])]
      | _ => rfl
  | lookup T x i ok => simp only [pureP, lookP]; rw [h.opv (x := x) (by simp [Op.operands]), h.opv (x := i) (by simp [Op.operands])]
  | nilCheck x =>
    simp only [pureP, ncP]
    cases x with
    | tmp t => simp only; rw [h.lk (by simp [Op.operands])]
    | _ => rfl
  | makeFunc fn fs cs =>
    cases fn with
    | func f => simp only [pureP]; rw [h.shvs (ys := cs.toList) (fun y hy => by simp only [Op.operands, Array.toList_append, List.mem_append]; exact .inr hy)]
    | _ => rfl
  | call c =>
    obtain ⟨callee, args, ats⟩ := c
    have ha : ∀ y ∈ args.toList, y ∈ (Op.call ⟨callee, args, ats⟩).operands.toList := fun y hy => by
      simp only [Op.operands, Call.operands, Array.toList_append, List.mem_append]; exact .inr hy
    cases callee with
    | builtin b =>
      cases b with
      | len =>
        simp only [pureP]
        split
        · rename_i x hx
          rw [h.shv (x := x) (ha x (by rw [hx]; simp))]
          simp only [h.len]
        · rfl
      | min => simp only [pureP]; rw [h.opvs ha]
      | max => simp only [pureP]; rw [h.opvs ha]
      | _ => rfl
    | _ => rfl
  | _ => rfl
end

/-! ### Acts that differ in what waits -/
structure Ag (ds : List Nat) (x y : Act) : Prop where
  defers : x.defers = y.defers
  size : x.tmps.size = y.tmps.size
  same : ∀ s, memN ds s = false → x.tmps[s]? = y.tmps[s]?

theorem Ag.refl (ds : List Nat) (x : Act) : Ag ds x x := ⟨rfl, rfl, fun _ _ => rfl⟩

theorem Ag.put {ds : List Nat} {x y : Act} (h : Ag ds x y) (d : Option Tmp) (v : Value) : Ag ds (x.put d v) (y.put d v) := by
  cases d with
  | none => exact h
  | some d =>
    refine ⟨h.defers, by simp [Act.put, h.size], fun s hs => ?_⟩
    simp only [Act.put, Array.getElem?_setIfInBounds, h.size]
    rw [h.same s hs]

theorem Ag.getD {ds : List Nat} {x y : Act} (h : Ag ds x y) {s : Nat} (hs : memN ds s = false) : x.tmps.getD s undef = y.tmps.getD s undef := by
  rw [Array.getD_eq_getD_getElem?, Array.getD_eq_getD_getElem?, h.same s hs]

theorem Ag.eval {ds : List Nat} {x y : Act} (h : Ag ds x y) (o : Operand) (ho : ∀ t, o = .tmp t → memN ds t = false) : x.eval o = y.eval o := by
  cases o with
  | tmp t =>
    have := h.getD (ho t rfl)
    simpa [Act.eval] using this
  | _ => rfl

def dstN (ops : Array Oper) (i : Nat) : Option Nat := (ops[i]?).bind (·.dst)

def dss (ops : Array Oper) : List Nat → List Nat
  | [] => []
  | i :: r => match dstN ops i with
    | some d => d :: dss ops r
    | none => dss ops r

theorem dss_mem {ops : Array Oper} : ∀ {D : List Nat} {s : Nat}, memN (dss ops D) s = true ↔ ∃ i ∈ D, dstN ops i = some s := by
  intro D s
  rw [memN_iff]
  induction D with
  | nil => simp [dss]
  | cons i r ih =>
    cases hd : dstN ops i with
    | none =>
      simp only [dss, hd, ih]
      constructor
      · rintro ⟨j, h1, h2⟩; exact ⟨j, List.mem_cons_of_mem _ h1, h2⟩
      · rintro ⟨j, h1, h2⟩
        rcases List.mem_cons.1 h1 with e | e
        · subst e; rw [hd] at h2; simp at h2
        · exact ⟨j, e, h2⟩
    | some d =>
      simp only [dss, hd, List.mem_cons, ih]
      constructor
      · rintro (e | ⟨j, h1, h2⟩)
        · exact ⟨i, .inl rfl, by rw [hd, e]⟩
        · exact ⟨j, .inr h1, h2⟩
      · rintro ⟨j, h1 | h1, h2⟩
        · subst h1; rw [hd] at h2; injection h2 with h2; exact .inl h2.symm
        · exact .inr ⟨j, h1, h2⟩

section
variable {P : Program} {γ : List Value} {ω : Own} {w : World} {nt : Nat} {st st' : St} {a : Act} {ops : Array Oper}

theorem Rel.ext (h : Rel γ ω w nt st a) (hB : st'.B = st.B) (hv : ∀ s, lk st'.v s = lk st.v s) : Rel γ ω w nt st' a :=
  ⟨h.size, h.defers, h.lt, h.gl, by rw [hB]; exact h.len, fun s => by rw [hv]; exact h.slots s, by rw [hB]; exact h.objs⟩

theorem rep_undef : Rep γ ω w (.tup []) undef := Rep.tup [] [] rfl (by simp)
theorem rep_tup0 {v : Value} (h : Rep γ ω w (.tup []) v) : v = .tuple #[] := by
  cases h with
  | tup _ vs hl _ =>
    have : vs = [] := List.eq_nil_of_length_eq_zero (by simpa using hl)
    subst this; rfl

def wantP (ops : Array Oper) (st : St) (o : Oper) : Option Bool :=
  match o.guard with
  | none => some true
  | some (j, want) => match dstN ops j with
    | some d => match lk st.v d with
      | .bool b => some (b == want)
      | .tup [] => some false
      | _ => none
    | none => none

/-- Done now, the operation comes to what its slot holds already. -/
def StillO (P : Program) (nt : Nat) (ops : Array Oper) (st : St) (o : Oper) (d : Nat) : Prop :=
  d < nt ∧ pureK o.op = true ∧ (match wantP ops st o with
    | some true => pureP P st o.op (fun c => Ev c (lk st.v d))
    | some false => lk st.v d = .tup []
    | none => False)

def Still (P : Program) (nt : Nat) (ops : Array Oper) (st : St) (i : Nat) : Prop :=
  ∃ o d, ops[i]? = some o ∧ o.dst = some d ∧ StillO P nt ops st o d

def stillAll (P : Program) (nt : Nat) (ops : Array Oper) (st : St) : List Nat → Prop
  | [] => True
  | i :: r => Still P nt ops st i ∧ stillAll P nt ops st r

theorem stillAll_get {P : Program} {nt : Nat} {ops : Array Oper} {st : St} : ∀ {l : List Nat}, stillAll P nt ops st l → ∀ i ∈ l, Still P nt ops st i
  | [], _, i, hi => by simp at hi
  | j :: r, h, i, hi => by
    rcases List.mem_cons.1 hi with e | e
    · rw [e]; exact h.1
    · exact stillAll_get h.2 i e

theorem operand_looks {o : Oper} {t : Nat} (h : Operand.tmp t ∈ o.op.operands) : t ∈ o.looksAt ops :=
  List.mem_append_left _ (List.mem_filterMap.2 ⟨.tmp t, by simpa using h, rfl⟩)

theorem guard_looks {o : Oper} {j : Nat} {want : Bool} (hg : o.guard = some (j, want)) {d : Nat} (hd : dstN ops j = some d) : d ∈ o.looksAt ops := by
  refine List.mem_append_right _ ?_
  unfold dstN at hd
  rw [hg]; simp [hd]

theorem StillO.same {o : Oper} {d : Nat} (hB : st'.B = st.B) (hx : ∀ t ∈ o.looksAt ops, lk st'.v t = lk st.v t) (hd : lk st'.v d = lk st.v d) (hs : StillO P nt ops st o d) : StillO P nt ops st' o d := by
  obtain ⟨h1, h2, h4⟩ := hs
  have hw : wantP ops st' o = wantP ops st o := by
    unfold wantP
    cases hg : o.guard with
    | none => rfl
    | some x =>
      obtain ⟨j, want⟩ := x
      simp only
      cases hdj : dstN ops j with
      | none => rfl
      | some d => simp only; rw [hx d (guard_looks hg hdj)]
  refine ⟨h1, h2, ?_⟩
  rw [hw, hd]
  split at h4
  · rw [SameAt.pure (P := P) ⟨hB, fun x hxx t e => hx t (operand_looks (by subst e; simpa using hxx))⟩]; exact h4
  · exact h4
  · exact h4

theorem want_ok {x : Act} (h : Rel γ ω w nt st x) {o : Oper} {b : Bool} (hb : wantP ops st o = some b) : Region.wanted o (yielded ops x.tmps) = b := by
  unfold wantP at hb
  cases hg : o.guard with
  | none => rw [hg] at hb; simp at hb; subst hb; simp [Region.wanted, hg]
  | some y =>
    obtain ⟨j, want⟩ := y
    rw [hg] at hb
    simp only at hb
    split at hb
    · rename_i d0 hd0
      unfold dstN at hd0
      split at hb
      · rename_i b0 hb0
        injection hb with hb
        have hr : Rep γ ω w (.bool b0) (x.eval (.tmp d0)) := h.slot d0 hb0
        have hv : x.tmps.getD d0 undef = .bool b0 := Val.bool (.inl hr)
        have hsome : x.tmps[d0]? = some (.bool b0) := by
          rw [Array.getD_eq_getD_getElem?] at hv
          cases hq : x.tmps[d0]? with
          | none => rw [hq] at hv; simp [undef] at hv
          | some u => rw [hq] at hv; simp at hv; rw [hv]
        have hy : yielded ops x.tmps j = some b0 := by
          unfold yielded
          rw [hd0]
          simp [hsome]
        simp [Region.wanted, hg, hy, ← hb]
      · rename_i hb0
        injection hb with hb
        have hr : Rep γ ω w (.tup []) (x.eval (.tmp d0)) := h.slot d0 hb0
        have hv : x.tmps.getD d0 undef = .tuple #[] := rep_tup0 hr
        have hy : yielded ops x.tmps j = none := by
          unfold yielded
          rw [hd0]
          simp only [Option.bind_some]
          rw [Array.getD_eq_getD_getElem?] at hv
          cases hq : x.tmps[d0]? with
          | none => rfl
          | some u => rw [hq] at hv; simp only [Option.getD_some] at hv; rw [hv]
        simp [Region.wanted, hg, hy, ← hb]
      · exact absurd hb (by simp)
    · exact absurd hb (by simp)

/-! ### What a region must keep to -/
def isSel : Op → Bool
  | .select .. => true
  | _ => false

def bindsOn (o : Oper) (i : Nat) : Bool := o.after.any fun e => Region.binds .any e && e.on == i

def regOk (ops : Array Oper) : Bool :=
  (List.range ops.size).all fun j => match ops[j]? with
    | none => false
    | some o => (o.after.all fun e => !Region.binds .any e || decide (e.on < j)) && !isSel o.op &&
      (List.range ops.size).all fun i => match ops[i]? with
        | none => false
        | some oi => !pureK oi.op || (match oi.dst with
          | none => true
          | some d => !(o.looksAt ops).contains d || (i != j && bindsOn o i))

theorem regOk_get (h : regOk ops = true) {j : Nat} {o : Oper} (ho : ops[j]? = some o) : (∀ e ∈ o.after, Region.binds .any e = true → e.on < j) ∧ (∀ cs b, o.op ≠ .select cs b) ∧
    ∀ i oi d, ops[i]? = some oi → pureK oi.op = true → oi.dst = some d → d ∈ o.looksAt ops → i ≠ j ∧ ∃ e ∈ o.after, Region.binds .any e = true ∧ e.on = i := by
  have hj : j < ops.size := (Array.getElem?_eq_some_iff.1 ho).1
  have h1 := List.all_eq_true.1 h j (List.mem_range.2 hj)
  simp only [ho, Bool.and_eq_true] at h1
  obtain ⟨⟨h1, h2⟩, h3⟩ := h1
  refine ⟨fun e he hb => ?_, fun cs b e => ?_, fun i oi d hi hp hd hm => ?_⟩
  · have := Array.all_eq_true_iff_forall_mem.1 h1 e he
    simpa [hb] using this
  · rw [e] at h2; simp [isSel] at h2
  · have hil : i < ops.size := (Array.getElem?_eq_some_iff.1 hi).1
    have := List.all_eq_true.1 h3 i (List.mem_range.2 hil)
    simp only [hi, hp, hd, Bool.not_true, Bool.false_or, Bool.or_eq_true, Bool.not_eq_true', Bool.and_eq_true] at this
    rcases this with h4 | ⟨h4, h5⟩
    · rw [List.contains_iff_mem.2 hm] at h4; simp at h4
    · obtain ⟨e, he, hb⟩ := Array.any_eq_true'.1 h5
      simp only [Bool.and_eq_true, beq_iff_eq] at hb
      exact ⟨by simpa using h4, e, he, hb.1, hb.2⟩

structure Inv (ops : Array Oper) (L D : List Nat) (listed : Array Bool) : Prop where
  size : listed.size = ops.size
  mem : ∀ i, i < ops.size → (listed.getD i false = true ↔ i ∈ L ∧ i ∉ D)

def un (listed : Array Bool) : Nat := ((List.range listed.size).filter fun i => !(listed.getD i false)).length

theorem filter_lt {p q : Nat → Bool} : ∀ {l : List Nat} {j : Nat}, j ∈ l → p j = true → q j = false → (∀ i, q i = true → p i = true) → (l.filter q).length < (l.filter p).length
  | [], j, h, _, _, _ => by simp at h
  | x :: r, j, h, hp, hq, hi => by
    have hle : ∀ l : List Nat, (l.filter q).length ≤ (l.filter p).length := by
      intro l
      induction l with
      | nil => simp
      | cons y t ih =>
        simp only [List.filter_cons]
        cases hqy : q y with
        | true => simp [hi y hqy]; exact ih
        | false => cases p y <;> simp <;> omega
    rcases List.mem_cons.1 h with e | e
    · subst e
      simp only [List.filter_cons, hp, hq]
      have := hle r
      simp; omega
    · have := filter_lt e hp hq hi
      simp only [List.filter_cons]
      cases hqx : q x with
      | true => simp [hi x hqx]; exact this
      | false => cases p x <;> simp <;> omega

theorem getD_lt {listed : Array Bool} {i : Nat} (h : i < listed.size) (d e : Bool) : listed.getD i d = listed.getD i e := by
  simp [Array.getD_eq_getD_getElem?, h]

theorem un_set {listed : Array Bool} {i : Nat} (h : i < listed.size) (hu : listed.getD i false = false) : un (listed.setIfInBounds i true) < un listed := by
  unfold un
  have hs : (listed.setIfInBounds i true).size = listed.size := by simp
  rw [hs]
  refine filter_lt (j := i) (List.mem_range.2 h) (by simp [hu]) (by simp [h]) (fun k hk => ?_)
  by_cases e : i = k
  · subst e; simp [h] at hk
  · rw [getD_set_ne false e] at hk; exact hk

theorem Inv.set {L D : List Nat} {listed : Array Bool} (h : Inv ops L D listed) {k : Nat} {L' D' : List Nat} (hk : k ∈ L') (hk' : k ∉ D') (hm : ∀ i, i ≠ k → ((i ∈ L' ∧ i ∉ D') ↔ (i ∈ L ∧ i ∉ D))) : Inv ops L' D' (listed.setIfInBounds k true) := by
  refine ⟨by simp [h.size], fun i hi => ?_⟩
  by_cases e : k = i
  · subst e
    have : k < listed.size := by rw [h.size]; exact hi
    simp [this, hk, hk']
  · rw [getD_set_ne false e, h.mem i hi, hm i (fun x => e x.symm)]

theorem un_zero {listed : Array Bool} (h : un listed = 0) {i : Nat} (hi : i < listed.size) : listed.getD i false = true := by
  unfold un at h
  have h1 := List.eq_nil_of_length_eq_zero h
  rw [List.filter_eq_nil_iff] at h1
  have := h1 i (List.mem_range.2 hi)
  simpa using this

theorem ready_nil (hreg : regOk ops = true) {listed : Array Bool} (hs : listed.size = ops.size) (hr : Region.ready .any ops listed = []) : ∀ i, i < ops.size → listed.getD i false = true := by
  intro i
  induction i using Nat.strongRecOn with
  | _ i ih =>
    intro hi
    cases hl : listed.getD i false with
    | true => rfl
    | false =>
      exfalso
      have : i ∈ Region.ready .any ops listed := by
        refine mem_ready.2 ⟨by rw [getD_lt (by omega) true false]; exact hl, ops[i], by simp [hi], fun e he hb => ?_⟩
        have hlt := (regOk_get hreg (j := i) (o := ops[i]) (by simp [hi])).1 e he hb
        exact ih e.on hlt (by omega)
      rw [hr] at this; simp at this

theorem ready_un {listed : Array Bool} (hs : listed.size = ops.size) {k : Nat} (hk : k ∈ Region.ready .any ops listed) : k < ops.size ∧ listed.getD k false = false := by
  obtain ⟨h1, o, ho, _⟩ := mem_ready.1 hk
  have hlt : k < ops.size := (Array.getElem?_eq_some_iff.1 ho).1
  exact ⟨hlt, by rw [getD_lt (by omega) false true]; exact h1⟩

/-- Which operations are next? -/
def nextOf (ops : Array Oper) (L : List Nat) : List Nat :=
  (List.range ops.size).filter fun j => !memN L j && (match ops[j]? with
    | some o => o.after.all fun e => !Region.binds .any e || memN L e.on
    | none => false)

def restOf (ops : Array Oper) (S : List Nat) (j : Nat) : List Nat :=
  match ops[j]? with
  | some o => S.filter fun i => !bindsOn o i
  | none => S

/-- What is done now touches nothing that those who wait look at. -/
def okOne (ops : Array Oper) (o : Oper) (R : List Nat) : Bool :=
  match o.dst with
  | none => true
  | some d => R.all fun j => match ops[j]? with
    | none => false
    | some oj => !(oj.looksAt ops).contains d && oj.dst != some d

/-- An operation whose value stands fast. -/
def RegV (P : Program) (γ : List Value) (ω : Own) (w : World) (ops : Array Oper) (x : Act) (i : Nat) : Prop :=
  ∃ o d v, ops[i]? = some o ∧ o.dst = some d ∧ pureK o.op = true ∧ x.tmps[d]? = some v ∧ (Region.wanted o (yielded ops x.tmps) = true → ∀ γ' ω' w', Keeps γ ω w γ' ω' w' → (execOp x.eval o).run P w' = .ok (.value v) w') ∧ (Region.wanted o (yielded ops x.tmps) = false → v = undef)

def Apt (ops : Array Oper) (S R : List Nat) : Prop := (∀ i ∈ R, ∀ j ∈ S, ∀ o d, ops[i]? = some o → dstN ops j = some d → d ∉ o.looksAt ops) ∧ (∀ i ∈ R, ∀ j ∈ S, ∀ d, dstN ops i = some d → dstN ops j ≠ some d)

theorem RegV.put {x : Act} {i : Nat} (hreg : regOk ops = true) (h : RegV P γ ω w ops x i) {e : Nat} {v : Value} (h1 : ∀ o, ops[i]? = some o → e ∉ o.looksAt ops) (h2 : dstN ops i ≠ some e) : RegV P γ ω w ops (x.put (some e) v) i := by
  obtain ⟨o, d, u, ho, hd, hk, hu, hw, hn⟩ := h
  have hne : e ≠ d := fun q => h2 (by simp [dstN, ho, hd, q])
  have hlk : ∀ d', some e = some d' → d' ∉ o.looksAt ops := fun d' q => by injection q with q; subst q; exact h1 o ho
  have e1 := wanted_put (ops := ops) o x (some e) v hlk
  have e2 := execOp_put (ops := ops) o (regOk_get hreg ho).2.1 x (some e) v hlk
  refine ⟨o, d, u, ho, hd, hk, ?_, fun hh γ' ω' w' hkp => ?_, fun hh => hn (by rw [← e1]; exact hh)⟩
  · simp only [Act.put]; rw [Array.getElem?_setIfInBounds_ne hne]; exact hu
  · rw [e2]; exact hw (by rw [← e1]; exact hh) γ' ω' w' hkp
theorem RegV.keeps {γ' : List Value} {ω' : Own} {w' : World} (hk : Keeps γ ω w γ' ω' w') {x : Act} {i : Nat} (h : RegV P γ ω w ops x i) : RegV P γ' ω' w' ops x i := by
  obtain ⟨o, d, u, ho, hd, hp, hu, hw, hn⟩ := h
  exact ⟨o, d, u, ho, hd, hp, hu, fun hh γ2 ω2 w2 h2 => hw hh γ2 ω2 w2 (hk.trans h2), hn⟩

theorem ready_apart2 (hreg : regOk ops = true) {L D : List Nat} {listed : Array Bool} (hI : Inv ops L D listed) (hst : ∀ i ∈ D, ∃ o d, ops[i]? = some o ∧ o.dst = some d ∧ pureK o.op = true) {k : Nat} (hk : k ∈ Region.ready .any ops listed) {o : Oper} (ho : ops[k]? = some o) :
    ∀ t ∈ o.looksAt ops, memN (dss ops D) t = false := by
  intro t ht
  cases hm : memN (dss ops D) t with
  | false => rfl
  | true =>
    exfalso
    obtain ⟨i, hi, hd⟩ := dss_mem.1 hm
    obtain ⟨oi, d, hoi, hdi, hso⟩ := hst i hi
    have : d = t := by simp [dstN, hoi, hdi] at hd; exact hd
    subst this
    obtain ⟨_, e, he, hb, hon⟩ := (regOk_get hreg ho).2.2 i oi d hoi hso hdi ht
    obtain ⟨hun, o', ho', hall⟩ := mem_ready.1 hk
    rw [ho] at ho'; injection ho' with ho'; subst ho'
    have h1 := hall e he hb
    rw [hon] at h1
    have hil : i < ops.size := (Array.getElem?_eq_some_iff.1 hoi).1
    exact ((hI.mem i hil).1 h1).2 hi

/-- Those who wait. -/
structure Wt (P : Program) (γ : List Value) (ω : Own) (w : World) (nt : Nat) (ops : Array Oper) (st : St) (x : Act) (D S R : List Nat) : Prop where
  reg : ∀ i ∈ D, i ∈ R → RegV P γ ω w ops x i
  still : ∀ i ∈ D, i ∉ R → i ∈ S ∧ Still P nt ops st i
  apt : Apt ops S R

theorem Wt.get {x : Act} {D S R : List Nat} (h : Wt P γ ω w nt ops st x D S R) : ∀ i ∈ D, ∃ o d, ops[i]? = some o ∧ o.dst = some d ∧ pureK o.op = true := by
  intro i hi
  rcases Classical.em (i ∈ R) with hr | hr
  · obtain ⟨o, d, v, h1, h2, h3, _⟩ := h.reg i hi hr
    exact ⟨o, d, h1, h2, h3⟩
  · obtain ⟨o, d, h1, h2, h3⟩ := (h.still i hi hr).2
    exact ⟨o, d, h1, h2, h3.2.1⟩

theorem ag_done {x a : Act} {D : List Nat} {k d : Nat} {v : Value} (hA : Ag (dss ops D) x a) (hdk : dstN ops k = some d) (hx : x.tmps[d]? = some v) : Ag (dss ops (D.filter (· != k))) x (a.put (some d) v) := by
  refine ⟨hA.defers, by simp [Act.put, hA.size], fun s hs => ?_⟩
  simp only [Act.put]
  by_cases e : d = s
  · subst e
    have hlt : d < x.tmps.size := (Array.getElem?_eq_some_iff.1 hx).1
    rw [Array.getElem?_setIfInBounds_self, if_pos (by rw [← hA.size]; exact hlt)]
    exact hx
  · rw [Array.getElem?_setIfInBounds_ne e]
    refine hA.same s ?_
    cases hm : memN (dss ops D) s with
    | false => rfl
    | true =>
      obtain ⟨i, hi, hdi⟩ := dss_mem.1 hm
      have hne : i ≠ k := fun e2 => by subst e2; rw [hdk] at hdi; injection hdi with hdi; exact e hdi
      rw [dss_mem.2 ⟨i, List.mem_filter.2 ⟨hi, by simpa using hne⟩, hdi⟩] at hs; simp at hs

theorem still_put {st : St} {j d : Nat} {c : MV} (hs : Still P nt ops st j) (h1 : ∀ oj, ops[j]? = some oj → d ∉ oj.looksAt ops) (h2 : dstN ops j ≠ some d) : Still P nt ops (st.put d c) j := by
  obtain ⟨o, e, ho, he, hso⟩ := hs
  have hne : ∀ s, s ≠ d → lk (st.put d c).v s = lk st.v s := fun s hs => by
    show lk (pt st.v d c) s = _
    rw [lk_pt, if_neg (fun q => hs q.symm)]
  refine ⟨o, e, ho, he, StillO.same (st := st) (st' := st.put d c) (ops := ops) rfl (fun t ht => hne t (fun q => by subst q; exact h1 o ho ht)) (hne e (fun q => h2 (by simp [dstN, ho, he, q]))) hso⟩

/-! ### What is done late: rows of constants -/
/-- What comes late: a value that is shared; a variable that nobody knows yet. -/
inductive LM where
  | val (m : MV)
  | box (cs : List MV)
/-- Its number, its slot, what comes. -/
abbrev Lts := List (Nat × Nat × LM)
def LV (γ : List Value) (ω : Own) (w : World) (B : Nat) : LM → Value → Prop
  | .val m, v => Rep γ ω w m v
  | .box cs, v => ∃ b cur e, v = .pointer (some ⟨b, 0, none⟩) ∧ B ≤ b ∧ b < w.heap.size ∧ ω b = some .outer ∧ w.heap[b]? = some (.cells cur e (0, 0)) ∧ cur.size = cs.length ∧
      ∀ (i : Nat) (c : MV), cs[i]? = some c → ∃ u, cur[i]? = some u ∧ u.oneCell' = true ∧ Rep γ ω w c u
theorem LV.chg {T : Owner → Prop} (hT : ¬ T .outer) {γ' : List Value} {ω' : Own} {w' : World} (hc : Chg T γ ω w γ' ω' w') {B : Nat} {m : LM} {v : Value} (h : LV γ ω w B m v) : LV γ' ω' w' B m v := by
  cases m with
  | val m => exact Rep.chg hc h
  | box cs =>
    obtain ⟨b, cur, e, h1, h2, h3, h4, h5, h6, h7⟩ := h
    obtain ⟨q1, q2⟩ := hc.keep b _ h3 h4 hT
    exact ⟨b, cur, e, h1, h2, Nat.lt_of_lt_of_le h3 hc.size, q2, q1.trans h5, h6, fun i c hi => by
      obtain ⟨u, r1, r2, r3⟩ := h7 i c hi
      exact ⟨u, r1, r2, r3.chg hc⟩⟩
def isBox : LM → Bool
  | .box _ => true
  | _ => false
/-- An operation that asks nothing and touches nothing but its slot. -/
def LateOp (P : Program) (nt : Nat) (ops : Array Oper) (t : Nat × Nat × LM) : Prop :=
  ∃ o, ops[t.1]? = some o ∧ o.dst = some t.2.1 ∧ t.2.1 < nt ∧ o.guard = none ∧ ∀ {γ : List Value} {ω : Own} {w : World} {st : St} {x : Act}, Rel γ ω w nt st x → ∀ a : Act,
    ∃ v ω' w', (execOp a.eval o).run P w = .ok (.value v) w' ∧ Chg (fun _ => False) γ ω w γ ω' w' ∧ (∀ b, w'.heap.size ≤ b → ω' b = none) ∧ LV γ ω' w' w.heap.size t.2.2 v
structure Lt (γ : List Value) (ω : Own) (w : World) (B : Nat) (ops : Array Oper) (L : List Nat) (T : Lts) (D E : List Nat) (a : Act) : Prop where
  out : ∀ i ∈ E, i ∉ L
  val : ∀ i ∈ E, ∃ t ∈ T, t.1 = i ∧ ∃ v, a.tmps[t.2.1]? = some v ∧ LV γ ω w B t.2.2 v
  off : ∀ i ∈ D, ∀ t ∈ T, ∀ o, ops[i]? = some o → t.2.1 ∉ o.looksAt ops ∧ o.dst ≠ some t.2.1
/-- The late ones, as a whole: no two of one slot. -/
structure LtOk (P : Program) (nt : Nat) (ops : Array Oper) (T : Lts) : Prop where
  op : ∀ t ∈ T, LateOp P nt ops t
  one : ∀ t ∈ T, ∀ t' ∈ T, t.2.1 = t'.2.1 → t.1 = t'.1
  key : ∀ t ∈ T, ∀ t' ∈ T, t.1 = t'.1 → t = t'
  box : ∀ t ∈ T, ∀ t' ∈ T, isBox t.2.2 = true → isBox t'.2.2 = true → t = t'

/-- One who waits comes up. -/
theorem pend2 (hreg : regOk ops = true) {L D E S R : List Nat} {T : Lts} {B : Nat} (hT : LtOk P nt ops T) {listed : Array Bool} (hI : Inv ops (E ++ L) D listed) {x a : Act} (hW : Wt P γ ω w nt ops st x D S R) (hLt : Lt γ ω w B ops L T D E a) (hDL : ∀ i ∈ D, i ∈ L) {k : Nat} (hkD : k ∈ D) (hk : k ∈ Region.ready .any ops listed)
    (h : Rel γ ω w nt st x) (hA : Ag (dss ops (D ++ E)) x a) (Q : Exit → Act → World → Prop) :
    wpOp P ops Q k (fun a' w' => w' = w ∧ ∃ x', Rel γ ω w nt st x' ∧ Wt P γ ω w nt ops st x' (D.filter (· != k)) S R ∧ Lt γ ω w B ops L T (D.filter (· != k)) E a' ∧ Ag (dss ops (D.filter (· != k) ++ E)) x' a') a w := by
  have hget := hW.get
  obtain ⟨o, d, ho, hd, hpk⟩ := hget k hkD
  have hl0 := ready_apart2 hreg hI hget hk ho
  have hdk : dstN ops k = some d := by simp [dstN, ho, hd]
  have hEd : ∀ i ∈ E, ∃ t ∈ T, dstN ops i = some t.2.1 ∧ t.1 = i := fun i hi => by
    obtain ⟨t, ht, e, _⟩ := hLt.val i hi
    obtain ⟨ot, g1, g2, _⟩ := hT.op t ht
    exact ⟨t, ht, by rw [← e]; simp [dstN, g1, g2], e⟩
  have hl : ∀ t ∈ o.looksAt ops, memN (dss ops (D ++ E)) t = false := by
    intro t ht
    cases hm : memN (dss ops (D ++ E)) t with
    | false => rfl
    | true =>
      exfalso
      obtain ⟨i, hi, hdi⟩ := dss_mem.1 hm
      rcases List.mem_append.1 hi with q | q
      · have := dss_mem.2 ⟨i, q, hdi⟩
        rw [hl0 t ht] at this; simp at this
      · obtain ⟨u, hu, g1, _⟩ := hEd i q
        rw [g1] at hdi; injection hdi with hdi
        exact (hLt.off k hkD u hu o ho).1 (hdi ▸ ht)
  have hfil : (D ++ E).filter (· != k) = D.filter (· != k) ++ E := by
    rw [List.filter_append]
    congr 1
    refine List.filter_eq_self.2 (fun i hi => ?_)
    have : i ≠ k := fun e => hLt.out i hi (e ▸ hDL k hkD)
    simpa using this
  have hwa : Region.wanted o (yielded ops a.tmps) = Region.wanted o (yielded ops x.tmps) := by
    unfold Region.wanted
    cases hg : o.guard with
    | none => rfl
    | some y =>
      obtain ⟨j, want⟩ := y
      have : yielded ops a.tmps j = yielded ops x.tmps j := by
        unfold yielded
        cases hd0 : (ops[j]?).bind (·.dst) with
        | none => rfl
        | some d0 =>
          simp only [Option.bind_some]
          rw [hA.same d0 (hl d0 (guard_looks hg hd0))]
      simp only [this]
  have hex : execOp x.eval o = execOp a.eval o := execOp_congr o (regOk_get hreg ho).2.1 (fun z hz => hA.eval z (fun t e => hl t (operand_looks (by rw [← e]; exact hz))))
  have sub : Wt P γ ω w nt ops st x (D.filter (· != k)) S R := ⟨fun i hi hr => hW.reg i (List.mem_filter.1 hi).1 hr, fun i hi hr => hW.still i (List.mem_filter.1 hi).1 hr, hW.apt⟩
  have subL : ∀ v, Lt γ ω w B ops L T (D.filter (· != k)) E (a.put (some d) v) := fun v => ⟨hLt.out, fun i hi => by
    obtain ⟨t, ht, e, u, hu, hr⟩ := hLt.val i hi
    refine ⟨t, ht, e, u, ?_, hr⟩
    have : d ≠ t.2.1 := fun q => (hLt.off k hkD t ht o ho).2 (by rw [hd, q])
    simp only [Act.put]; rw [Array.getElem?_setIfInBounds_ne this]; exact hu, fun i hi => hLt.off i (List.mem_filter.1 hi).1⟩
  unfold wpOp
  simp only [ho]
  rw [hwa]
  rcases Classical.em (k ∈ R) with hkR | hkR
  · obtain ⟨o', d', v, ho', hd', _, hv, hw1, hw2⟩ := hW.reg k hkD hkR
    rw [ho] at ho'; injection ho' with ho'; subst ho'
    rw [hd] at hd'; injection hd' with hd'; subst hd'
    cases hwt : Region.wanted o (yielded ops x.tmps) with
    | true =>
      simp only [if_true]
      refine .inl ?_
      unfold Oper.wp
      rw [← hex, hw1 hwt γ ω w (Keeps.refl _ _ _), Oper.upon_value]
      exact ⟨rfl, x, h, sub, by rw [hd]; exact subL v, by rw [hd, ← hfil]; exact ag_done hA hdk hv⟩
    | false =>
      have := hw2 hwt
      subst this
      simp only [Bool.false_eq_true, if_false]
      exact ⟨trivial, x, h, sub, by rw [hd]; exact subL _, by rw [hd, ← hfil]; exact ag_done hA hdk hv⟩
  · obtain ⟨hkS, hstk⟩ := hW.still k hkD hkR
    obtain ⟨o', d', ho', hd', g1, g2, g4⟩ := hstk
    rw [ho] at ho'; injection ho' with ho'; subst ho'
    rw [hd] at hd'; injection hd' with hd'; subst hd'
    -- the act behind it
    have fin : ∀ v, Rep γ ω w (lk st.v d) v → ∃ x', Rel γ ω w nt st x' ∧ Wt P γ ω w nt ops st x' (D.filter (· != k)) S R ∧ Lt γ ω w B ops L T (D.filter (· != k)) E (a.put o.dst v) ∧ Ag (dss ops (D.filter (· != k) ++ E)) x' (a.put o.dst v) := by
      intro v hv
      have hR2 : Rel γ ω w nt st (x.put (some d) v) := by
        refine (h.put g1 hv).ext rfl (fun s => ?_)
        simp only [St.put, lk_pt]
        by_cases e : d = s
        · subst e; simp
        · simp only [e, if_false]
      refine ⟨x.put (some d) v, hR2, ⟨fun i hi hr => ?_, fun i hi hr => hW.still i (List.mem_filter.1 hi).1 hr, hW.apt⟩, by rw [hd]; exact subL v, ?_⟩
      · refine (hW.reg i (List.mem_filter.1 hi).1 hr).put hreg (fun o hoo => hW.apt.1 i hr k hkS o d hoo hdk) (fun q => hW.apt.2 i hr k hkS d q hdk)
      · have hA' : Ag (dss ops (D ++ E)) (x.put (some d) v) (a.put (some d) v) := hA.put _ _
        have hsz : d < x.tmps.size := by rw [h.size]; exact g1
        have h3 := ag_done (k := k) (v := v) hA' hdk (by simp only [Act.put]; rw [Array.getElem?_setIfInBounds_self, if_pos hsz])
        rw [hd]
        have e2 : (a.put (some d) v).put (some d) v = a.put (some d) v := by simp [Act.put]
        rw [e2, hfil] at h3
        exact h3
    cases hwt : wantP ops st o with
    | none => rw [hwt] at g4; exact g4.elim
    | some b =>
      rw [hwt] at g4
      rw [want_ok h hwt]
      cases b with
      | true =>
        simp only [if_true]
        refine .inl ?_
        obtain ⟨c, v, q1, q2, q3⟩ := pure_ok h g4
        unfold Oper.wp
        rw [← hex, q1, Oper.upon_value]
        exact ⟨rfl, fin v (q3.rep q2)⟩
      | false =>
        simp only [Bool.false_eq_true, if_false]
        exact ⟨trivial, fin undef (by rw [g4]; exact rep_undef)⟩

/-- Where all began. -/
structure Beg where
  γ : List Value
  ω : Own
  w : World
/-- Those who wait, whatever is told of the state. -/
structure Wt0 (P : Program) (γ : List Value) (ω : Own) (w : World) (ops : Array Oper) (x : Act) (D S R : List Nat) : Prop where
  reg : ∀ i ∈ D, i ∈ R → RegV P γ ω w ops x i
  still : ∀ i ∈ D, i ∉ R → i ∈ S ∧ ∃ o d, ops[i]? = some o ∧ o.dst = some d ∧ pureK o.op = true
  apt : Apt ops S R
theorem Wt.w0 {x : Act} {D S R : List Nat} (h : Wt P γ ω w nt ops st x D S R) : Wt0 P γ ω w ops x D S R :=
  ⟨h.reg, fun i hi hn => by
    obtain ⟨q, o, d, h1, h2, h3⟩ := h.still i hi hn
    exact ⟨q, o, d, h1, h2, h3.2.1⟩, h.apt⟩
theorem Wt0.get {x : Act} {D S R : List Nat} (h : Wt0 P γ ω w ops x D S R) : ∀ i ∈ D, ∃ o d, ops[i]? = some o ∧ o.dst = some d ∧ pureK o.op = true := by
  intro i hi
  rcases Classical.em (i ∈ R) with hr | hr
  · obtain ⟨o, d, v, h1, h2, h3, _⟩ := h.reg i hi hr
    exact ⟨o, d, h1, h2, h3⟩
  · exact (h.still i hi hr).2
/-- Where the machine is, beside what is told: D was told early, E is done and not told yet. -/
structure Cfg0 (P : Program) (nt : Nat) (ops : Array Oper) (b : Beg) (γ : List Value) (ω : Own) (w : World) (st : St) (x a : Act) (L S R : List Nat) (T : Lts) (D E : List Nat) (listed : Array Bool) : Prop where
  inv : Inv ops (E ++ L) D listed
  dl : ∀ i ∈ D, i ∈ L
  ds : ∀ i ∈ D, i ∈ S ∨ i ∈ R
  wt0 : Wt0 P γ ω w ops x D S R
  lt : Lt γ ω w b.w.heap.size ops L T D E a
  rel : Rel γ ω w nt st x
  ag : Ag (dss ops (D ++ E)) x a
  base : Chg NotOuter b.γ b.ω b.w γ ω w
structure Cfg (P : Program) (nt : Nat) (ops : Array Oper) (b : Beg) (γ : List Value) (ω : Own) (w : World) (st : St) (x a : Act) (L S R : List Nat) (T : Lts) (D E : List Nat) (listed : Array Bool) : Prop where
  inv : Inv ops (E ++ L) D listed
  dl : ∀ i ∈ D, i ∈ L
  ds : ∀ i ∈ D, i ∈ S ∨ i ∈ R
  wt : Wt P γ ω w nt ops st x D S R
  lt : Lt γ ω w b.w.heap.size ops L T D E a
  rel : Rel γ ω w nt st x
  ag : Ag (dss ops (D ++ E)) x a
  base : Chg NotOuter b.γ b.ω b.w γ ω w
theorem Cfg.c0 {b : Beg} {x a : Act} {L S R : List Nat} {T : Lts} {D E : List Nat} {listed : Array Bool} (h : Cfg P nt ops b γ ω w st x a L S R T D E listed) : Cfg0 P nt ops b γ ω w st x a L S R T D E listed :=
  ⟨h.inv, h.dl, h.ds, h.wt.w0, h.lt, h.rel, h.ag, h.base⟩

/-- From here on every order comes to K. -/
def DrV (P : Program) (nt : Nat) (ops : Array Oper) (L S R : List Nat) (T : Lts) (st : St) (K : St → Prop) : Prop :=
  ∀ (b : Beg) (γ : List Value) (ω : Own) (w : World) (x a : Act) (D E : List Nat) (listed : Array Bool) (fuel : Nat) (Q : Exit → Act → World → Prop), Cfg P nt ops b γ ω w st x a L S R T D E listed → un listed ≤ fuel →
    (∀ γ' ω' w' st' a', Chg NotOuter b.γ b.ω b.w γ' ω' w' → Rel γ' ω' w' nt st' a' → K st' → Q .normal a' w') → wpAny P .any ops Q fuel listed a w

/-- The same, told otherwise. -/
structure Ext (st st' : St) : Prop where
  B : st'.B = st.B
  lk : ∀ s, Go.Pv.lk st'.v s = Go.Pv.lk st.v s
theorem Still.ext {st' : St} {i : Nat} (h : Ext st st') (hs : Still P nt ops st i) : Still P nt ops st' i := by
  obtain ⟨o, d, ho, hd, hso⟩ := hs
  exact ⟨o, d, ho, hd, hso.same h.B (fun t _ => h.lk t) (h.lk d)⟩
theorem DrV.ext {L S R : List Nat} {T : Lts} {K : St → Prop} {st' : St} (h : Ext st st') (hd : DrV P nt ops L S R T st' K) : DrV P nt ops L S R T st K := by
  intro b γ ω w x a D E listed fuel Q hc hun hq
  exact hd b γ ω w x a D E listed fuel Q ⟨hc.inv, hc.dl, hc.ds, ⟨hc.wt.reg, fun i hi hn => ⟨(hc.wt.still i hi hn).1, (hc.wt.still i hi hn).2.ext h⟩, hc.wt.apt⟩, hc.lt, hc.rel.ext h.B h.lk, hc.ag, hc.base⟩ hun hq

theorem fin0 {x a : Act} (hx : Rel γ ω w nt st x) (ha : Ag (dss ops []) x a) : Rel γ ω w nt st a := by
  have h1 : x.tmps = a.tmps := Array.ext_getElem? (fun s => ha.same s rfl)
  refine ⟨by rw [← h1]; exact hx.size, by rw [← ha.defers]; exact hx.defers, hx.lt, hx.gl, hx.len, fun s => ?_, hx.objs⟩
  rw [← h1]; exact hx.slots s

/-- Who waits comes up: the machine goes on. -/
theorem Cfg.pend {L S R D E : List Nat} {T : Lts} {listed : Array Bool} {x a : Act} {b : Beg} (hreg : regOk ops = true) (hT : LtOk P nt ops T) (hc : Cfg P nt ops b γ ω w st x a L S R T D E listed) {k : Nat} (hkD : k ∈ D) (hk : k ∈ Region.ready .any ops listed) (Q : Exit → Act → World → Prop) :
    wpOp P ops Q k (fun a' w' => w' = w ∧ ∃ x', Cfg P nt ops b γ ω w st x' a' L S R T (D.filter (· != k)) E (listed.setIfInBounds k true)) a w := by
  refine wpOp_mono (fun a' w' hh => ?_) (pend2 hreg hT hc.inv hc.wt hc.lt hc.dl hkD hk hc.rel hc.ag Q)
  obtain ⟨rfl, x', hR', hW', hL', hA'⟩ := hh
  exact ⟨rfl, x', hc.inv.set (List.mem_append_right _ (hc.dl k hkD)) (by simp) (fun i hi => by simp [hi]), fun i hi => hc.dl i (List.mem_filter.1 hi).1, fun i hi => hc.ds i (List.mem_filter.1 hi).1, hW', hL', hR', hA', hc.base⟩

theorem DrV.done {L S R : List Nat} {T : Lts} (hT : LtOk P nt ops T) {K : St → Prop} (hreg : regOk ops = true) (hL : ∀ i, i < ops.size → i ∈ L) (hK : K st) : DrV P nt ops L S R T st K := by
  intro b γ ω w x a D E listed fuel Q hc hun hq
  have hE : E = [] := List.eq_nil_iff_forall_not_mem.2 (fun i hi => by
    obtain ⟨t, ht, e, _⟩ := hc.lt.val i hi
    obtain ⟨o, g1, _⟩ := hT.op t ht
    exact hc.lt.out i hi (hL i (by rw [← e]; exact (Array.getElem?_eq_some_iff.1 g1).1)))
  subst hE
  have noD : (∀ i, i < ops.size → listed.getD i false = true) → D = [] := fun hall => List.eq_nil_iff_forall_not_mem.2 (fun i hi => by
    obtain ⟨o, d, ho, _⟩ := hc.wt.get i hi
    have hlt : i < ops.size := (Array.getElem?_eq_some_iff.1 ho).1
    exact ((hc.inv.mem i hlt).1 (hall i hlt)).2 hi)
  induction fuel generalizing D listed x a with
  | zero =>
    have hall := fun i (hi : i < ops.size) => un_zero (Nat.le_zero.1 hun) (i := i) (by rw [hc.inv.size]; exact hi)
    have hD' := noD hall
    subst hD'
    have hr : Region.ready .any ops listed = [] := by
      rw [List.eq_nil_iff_forall_not_mem]
      intro k hk
      obtain ⟨h1, h2⟩ := ready_un hc.inv.size hk
      rw [hall k h1] at h2; simp at h2
    exact ⟨hr, hq _ _ _ _ _ hc.base (fin0 hc.rel hc.ag) hK⟩
  | succ fuel ih =>
    refine ⟨fun hr => ?_, fun k hk => ?_⟩
    · have hD' := noD (ready_nil hreg hc.inv.size hr)
      subst hD'
      exact hq _ _ _ _ _ hc.base (fin0 hc.rel hc.ag) hK
    · obtain ⟨hlt, hu⟩ := ready_un hc.inv.size hk
      have hkD : k ∈ D := by
        rcases Classical.em (k ∈ D) with h1 | h1
        · exact h1
        · have := (hc.inv.mem k hlt).2 ⟨by simpa using hL k hlt, h1⟩
          rw [this] at hu; simp at hu
      refine wpOp_mono (fun a' w' hh => ?_) (hc.pend hreg hT hkD hk Q)
      obtain ⟨rfl, x', hc'⟩ := hh
      exact ih x' _ (D.filter (· != k)) _ (by have := un_set (by rw [hc.inv.size]; exact hlt) hu; omega) hc' (fun hall => List.eq_nil_iff_forall_not_mem.2 (fun i hi => by
        obtain ⟨o, d, ho, _⟩ := hc'.wt.get i hi
        have hlt : i < ops.size := (Array.getElem?_eq_some_iff.1 ho).1
        exact ((hc'.inv.mem i hlt).1 (hall i hlt)).2 hi))

/-- Something is run early. -/
theorem DrV.early {L S R S' R' : List Nat} {T : Lts} {K : St → Prop} (hreg : regOk ops = true) (i : Nat) {o : Oper} {d : Nat} (ho : ops[i]? = some o) (hd : o.dst = some d) (hiL : i ∉ L) (hdn : d < nt) (hiT : ∀ t ∈ T, t.1 ≠ i ∧ t.2.1 ∉ o.looksAt ops ∧ o.dst ≠ some t.2.1)
    (hS : ∀ j ∈ S, j ∈ S') (hR : ∀ j ∈ R, j ∈ R') (hi : i ∈ S' ∨ i ∈ R') (hapt : Apt ops S' R') (hnew : ∀ j ∈ R', j = i ∨ j ∈ R) (hiR : i ∈ R' → i ∉ S')
    (hk1 : ∀ j ∈ R, ∀ oj, ops[j]? = some oj → d ∉ oj.looksAt ops) (hk2 : ∀ j ∈ R, dstN ops j ≠ some d)
    (h : ∀ {γ : List Value} {ω : Own} {w : World} {x : Act}, Rel γ ω w nt st x → ∃ c v, Rel γ ω w nt (st.put d c) (x.put (some d) v) ∧ (i ∈ R' → RegV P γ ω w ops (x.put (some d) v) i) ∧ (i ∉ R' → Still P nt ops (st.put d c) i) ∧ (∀ j ∈ S, j ≠ i → Still P nt ops st j → Still P nt ops (st.put d c) j) ∧ DrV P nt ops (i :: L) S' R' T (st.put d c) K) : DrV P nt ops L S R T st K := by
  intro b γ ω w x a D E listed fuel Q hc hun hq
  obtain ⟨hI, hDL, hDS, hW, hLt, hRx, hA, hbs⟩ := hc
  obtain ⟨c, v, hR2, hrv, hsv, hold, hDr⟩ := h hRx
  have hdi : dstN ops i = some d := by simp [dstN, ho, hd]
  have hiD : i ∉ D := fun hh => hiL (hDL i hh)
  have hiE : i ∉ E := fun hh => by
    obtain ⟨t, ht, e, _⟩ := hLt.val i hh
    exact (hiT t ht).1 e
  have hds : dss ops (i :: D ++ E) = d :: dss ops (D ++ E) := by simp [dss, hdi]
  refine hDr b γ ω w (x.put (some d) v) a (i :: D) E listed fuel Q ⟨⟨hI.size, fun j hj => ?_⟩, fun j hj => ?_, fun j hj => ?_, ⟨fun j hj hr => ?_, fun j hj hr => ?_, hapt⟩, ⟨fun j hj => ?_, hLt.val, fun j hj t ht oj hoj => ?_⟩, hR2, ?_, hbs⟩ hun hq
  · rw [hI.mem j hj]
    simp only [List.mem_cons, List.mem_append, not_or]
    constructor
    · rintro ⟨h1, h2⟩
      refine ⟨h1.elim .inl (fun q => .inr (.inr q)), fun e => ?_, h2⟩
      subst e
      exact h1.elim hiE hiL
    · rintro ⟨h1, h2, h3⟩
      rcases h1 with e | e | e
      · exact ⟨.inl e, h3⟩
      · exact absurd e h2
      · exact ⟨.inr e, h3⟩
  · rcases List.mem_cons.1 hj with e | e
    · rw [e]; simp
    · exact List.mem_cons_of_mem _ (hDL j e)
  · rcases List.mem_cons.1 hj with e | e
    · rw [e]; exact hi
    · rcases hDS j e with h1 | h1
      · exact .inl (hS j h1)
      · exact .inr (hR j h1)
  · rcases List.mem_cons.1 hj with e | e
    · subst e; exact hrv hr
    · have hjR : j ∈ R := by
        rcases hnew j hr with q | q
        · subst q; exact absurd e hiD
        · exact q
      exact (hW.reg j e hjR).put hreg (fun oj hoj => hk1 j hjR oj hoj) (hk2 j hjR)
  · rcases List.mem_cons.1 hj with e | e
    · subst e
      exact ⟨hi.resolve_right hr, hsv hr⟩
    · have hjR : j ∉ R := fun q => hr (hR j q)
      obtain ⟨q1, q2⟩ := hW.still j e hjR
      exact ⟨hS j q1, hold j q1 (fun q => by subst q; exact hiD e) q2⟩
  · intro hjl
    rcases List.mem_cons.1 hjl with e | e
    · subst e; exact hiE hj
    · exact hLt.out j hj e
  · rcases List.mem_cons.1 hj with e | e
    · subst e; rw [ho] at hoj; injection hoj with hoj; subst hoj; exact (hiT t ht).2
    · exact hLt.off j e t ht oj hoj
  · rw [hds]
    refine ⟨hA.defers, by simp [Act.put, hA.size], fun s hs => ?_⟩
    have e : d ≠ s := by
      intro e; subst e
      have : memN (d :: dss ops (D ++ E)) d = true := memN_iff.2 (by simp)
      rw [this] at hs; simp at hs
    have hs' : memN (dss ops (D ++ E)) s = false := by
      cases hq : memN (dss ops (D ++ E)) s with
      | false => rfl
      | true => rw [memN_iff.2 (List.mem_cons_of_mem _ (memN_iff.1 hq))] at hs; simp at hs
    simp only [Act.put]
    rw [Array.getElem?_setIfInBounds_ne e]
    exact hA.same s hs'

/-- The same operation from acts that differ in what it does not look at. -/
theorem wp_move {o : Oper} {ds : List Nat} {x y : Act} (hA : Ag ds x y) (hs : ∀ cs b, o.op ≠ .select cs b) (hl : ∀ t ∈ o.looksAt ops, memN ds t = false) {K : Act → World → Prop} {Q : Exit → Act → World → Prop}
    (h : o.wp P x w K (fun _ _ _ => False)) : o.wp P y w (fun y' w' => ∃ x', K x' w' ∧ Ag ds x' y') Q := by
  have he : execOp x.eval o = execOp y.eval o := execOp_congr o hs (fun z hz => hA.eval z (fun t e => hl t (operand_looks (by rw [← e]; exact hz))))
  unfold Oper.wp at h ⊢
  rw [he] at h
  generalize (execOp y.eval o).run P w = r at h
  cases r with
  | halt h' w' => cases h' <;> exact h.elim
  | ok n w' =>
    cases n with
    | value v => exact ⟨_, h, hA.put _ _⟩
    | skip => exact ⟨_, h, hA.put _ _⟩
    | defer d => exact ⟨_, h, (Ag.put (x := { x with defers := d :: x.defers }) (y := { y with defers := d :: y.defers }) ⟨by simp [hA.defers], hA.size, hA.same⟩ _ _)⟩
    | enter f args =>
      simp only [Oper.upon] at h ⊢
      refine Calls.mono h fun e w'' hh => ?_
      cases e with
      | returned v => exact ⟨_, hh, hA.put _ _⟩
      | panicked ch => exact hh.elim
      | outgrown => simp [LetsOut] at hh
    | row rw_ args =>
      simp only [Oper.upon] at h ⊢
      exact Rows.mono h fun v w'' hh => ⟨_, hh, hA.put _ _⟩
    | _ => exact h.elim

/-- An operation turns its own slot alone. -/
theorem Oper.wp_dst {o : Oper} {x : Act} {K : Act → World → Prop} {Q : Exit → Act → World → Prop} (h : o.wp P x w K Q) : o.wp P x w (fun x' w' => K x' w' ∧ ∃ v, x'.tmps = (x.put o.dst v).tmps) Q := by
  unfold Oper.wp at h ⊢
  generalize (execOp x.eval o).run P w = r at h
  cases r with
  | halt h' w' => cases h' <;> exact h
  | ok n w' =>
    cases n with
    | value v => exact ⟨h, v, rfl⟩
    | skip => exact ⟨h, undef, rfl⟩
    | defer d => exact ⟨h, undef, by cases o.dst <;> rfl⟩
    | enter f args =>
      simp only [Oper.upon] at h ⊢
      refine Calls.mono h fun e w'' hh => ?_
      cases e with
      | returned v => exact ⟨hh, v, rfl⟩
      | panicked ch => exact hh
      | outgrown => exact hh
    | row rw_ args =>
      simp only [Oper.upon] at h ⊢
      exact Rows.mono h fun v w'' hh => ⟨hh, v, rfl⟩
    | _ => exact h

theorem RegV.tm {x x' : Act} {i : Nat} (h : RegV P γ ω w ops x i) (e : x'.tmps = x.tmps) : RegV P γ ω w ops x' i := by
  obtain ⟨o, d, v, h1, h2, h3, h4, h5, h6⟩ := h
  have he : x'.eval = x.eval := by
    funext y
    cases y <;> simp [Act.eval, e]
  exact ⟨o, d, v, h1, h2, h3, by rw [e]; exact h4, fun q => by rw [he]; exact h5 (by rw [← e]; exact q), fun q => h6 (by rw [← e]; exact q)⟩

theorem Apt.sub {S R S' R' : List Nat} (h : Apt ops S R) (hS : ∀ i ∈ S', i ∈ S) (hR : ∀ i ∈ R', i ∈ R) : Apt ops S' R' :=
  ⟨fun i hi j hj => h.1 i (hR i hi) j (hS j hj), fun i hi j hj => h.2 i (hR i hi) j (hS j hj)⟩

theorem okOne_ok {o : Oper} {R : List Nat} (h : okOne ops o R = true) {d : Nat} (hd : o.dst = some d) : ∀ j ∈ R, (∀ oj, ops[j]? = some oj → d ∉ oj.looksAt ops) ∧ dstN ops j ≠ some d := by
  intro j hj
  unfold okOne at h
  rw [hd] at h
  have := List.all_eq_true.1 h j hj
  split at this
  · exact absurd this (by simp)
  · rename_i oj hoj
    simp only [Bool.and_eq_true, Bool.not_eq_true', bne_iff_ne, ne_eq] at this
    refine ⟨fun oj' hoj' hm => ?_, fun q => this.2 (by simpa [dstN, hoj] using q)⟩
    rw [hoj] at hoj'; injection hoj' with hoj'; subst hoj'
    rw [List.contains_iff_mem.2 hm] at this; simp at this

/-- What one step comes to, from a state that it may be told in. -/
def Steps1 (P : Program) (nt : Nat) (ops : Array Oper) (o : Oper) (k : Nat) (st : St) (K : St → Prop) : Prop :=
  ∀ {γ : List Value} {ω : Own} {w : World} {x a : Act} {ds : List Nat}, Rel γ ω w nt st x → Ag ds x a → (∀ t ∈ o.looksAt ops, memN ds t = false) → ∀ (Q : Exit → Act → World → Prop),
    wpOp P ops Q k (fun a' w' => ∃ γ' ω' st' x', Chg NotOuter γ ω w γ' ω' w' ∧ Rel γ' ω' w' nt st' x' ∧ K st' ∧ Ag ds x' a' ∧ (∃ v, x'.tmps = (x.put o.dst v).tmps) ∧ ∃ v, a'.tmps = (a.put o.dst v).tmps) a w

/-! #### What is late is told -/
def mat1 (t : Nat × Nat × LM) (st : St) : St := match t.2.2 with
  | .val m => st.put t.2.1 m
  | .box cs => st.newP (some t.2.1) cs
def matS : Lts → St → St
  | [], st => st
  | t :: r, st => matS r (mat1 t st)
/-- What is late is told: the state. -/
theorem Rel.mat1 {x : Act} (h : Rel γ ω w nt st x) {b : Beg} (hb : Chg NotOuter b.γ b.ω b.w γ ω w) {t : Nat × Nat × LM} (hd : t.2.1 < nt) {v : Value} (hv : LV γ ω w b.w.heap.size t.2.2 v) :
    ∃ γ' ω', Rel γ' ω' w nt (Go.Pv.mat1 t st) (x.put (some t.2.1) v) ∧ Chg NotOuter b.γ b.ω b.w γ' ω' w ∧ Keeps γ ω w γ' ω' w ∧ ∀ m u, LV γ ω w b.w.heap.size m u → isBox m = false ∨ isBox t.2.2 = false → LV γ' ω' w b.w.heap.size m u := by
  obtain ⟨i, d, m⟩ := t
  cases m with
  | val m => exact ⟨γ, ω, h.put hd hv, hb, Keeps.refl _ _ _, fun _ _ h _ => h⟩
  | box cs =>
    obtain ⟨k, cur, e, h1, h2, h3, h4, h5, h6, h7⟩ := hv
    subst h1
    have hcg : Chg (fun o => o = .outer) γ ω w (γ ++ [.pointer (some ⟨k, 0, none⟩)]) (fun b' => if b' = k then some (.ob γ.length []) else ω b') w := by
      refine ⟨rfl, rfl, rfl, Nat.le_refl _, fun q u hq => ?_, fun q hq h0 => ⟨rfl, ?_⟩, fun q o hq ho hn => ⟨rfl, ?_⟩⟩
      · rw [List.getElem?_append_left (List.getElem?_eq_some_iff.1 hq).1]; exact hq
      · rw [if_neg]
        · exact h0
        · intro e2; subst e2; rw [h4] at h0; simp at h0
      · rw [if_neg]
        · exact ho
        · intro e2; subst e2; rw [h4] at ho; injection ho with ho; exact hn ho.symm
    refine ⟨_, _, ?_, ?_, hcg.keeps, fun m u hm hn => ?_⟩
    · have hR := h.turn hcg (fun q hq => by rw [if_neg (by omega)]; exact h.lt q hq) (B' := st.B ++ [some (.box cs)]) (by simp [h.len]) (fun q o hq => by
        rcases Nat.lt_or_ge q st.B.length with hk1 | hk1
        · rw [List.getElem?_append_left hk1] at hq; exact .inl ⟨hq, fun _ => by simp⟩
        · rw [List.getElem?_append_right hk1] at hq
          have : q = γ.length := by
            have := (List.getElem?_eq_some_iff.1 hq).1
            simp at this; rw [h.len]; omega
          subst this
          rw [h.len] at hq; simp at hq; subst hq
          refine .inr ⟨_, by simp, k, cur, e, rfl, h3, by simp, h5, h6, fun i c hi => ?_⟩
          obtain ⟨u, r1, r2, r3⟩ := h7 i c hi
          exact ⟨u, r1, r2, r3.chg hcg⟩)
      exact hR.putO (d := some d) (fun q hq => by injection hq with hq; subst hq; exact hd) (.ptr st.B.length 0 k (by rw [← h.len]; simp))
    · refine ⟨hb.os, hb.tape, hb.output, hb.size, fun q u hq => hcg.pre _ _ (hb.pre _ _ hq), fun q hq h0 => ?_, fun q o hq ho hn => ?_⟩
      · rw [if_neg (by omega)]; exact hb.none q hq h0
      · rw [if_neg (by omega)]; exact hb.keep q o hq ho hn
    · cases m with
      | val m => exact Rep.chg hcg hm
      | box cs' => simp [isBox] at hn
theorem Cfg0.mat1 {L S R D E : List Nat} {T : Lts} {listed : Array Bool} {x a : Act} {b : Beg} (hreg : regOk ops = true) (hT : LtOk P nt ops T) (hc : Cfg0 P nt ops b γ ω w st x a L S R T D E listed) {t : Nat × Nat × LM} (ht : t ∈ T) (htE : t.1 ∈ E) :
    ∃ γ' ω' x', Keeps γ ω w γ' ω' w ∧ Cfg0 P nt ops b γ' ω' w (Go.Pv.mat1 t st) x' a (t.1 :: L) S R T D (E.filter (· != t.1)) listed := by
  obtain ⟨hI, hDL, hDS, hW, hLt, hRx, hA, hbs⟩ := hc
  obtain ⟨t', ht', e, v, hv, hr⟩ := hLt.val _ htE
  have := hT.key t' ht' t ht e
  subst this
  obtain ⟨o, g1, g2, g3, g4, _⟩ := hT.op _ ht
  have hdt : dstN ops t'.1 = some t'.2.1 := by simp [dstN, g1, g2]
  have htD : t'.1 ∉ D := fun q => hLt.out _ htE (hDL _ q)
  obtain ⟨γ', ω', f1, f2, f3, f4⟩ := hRx.mat1 hbs g3 hr
  refine ⟨γ', ω', x.put (some t'.2.1) v, f3, ⟨hI.size, fun j hj => ?_⟩, fun j hj => List.mem_cons_of_mem _ (hDL j hj), hDS, ⟨fun j hj hr => ?_, hW.still, hW.apt⟩, ⟨fun j hj => ?_, fun j hj => ?_, hLt.off⟩, f1, ?_, f2⟩
  · rw [hI.mem j hj]
    simp only [List.mem_append, List.mem_cons, List.mem_filter]
    constructor
    · rintro ⟨h1, h2⟩
      refine ⟨?_, h2⟩
      by_cases q : j = t'.1
      · exact .inr (.inl q)
      · exact h1.elim (fun h => .inl ⟨h, by simpa using q⟩) (fun h => .inr (.inr h))
    · rintro ⟨h1, h2⟩
      refine ⟨?_, h2⟩
      rcases h1 with h | h | h
      · exact .inl h.1
      · exact .inl (h ▸ htE)
      · exact .inr h
  · exact ((hW.reg j hj hr).keeps f3).put hreg (fun oj hoj => (hLt.off j hj _ ht oj hoj).1) (fun q => by
      obtain ⟨oj, dj, hoj, hdj, _⟩ := hW.get j hj
      exact (hLt.off j hj _ ht oj hoj).2 (by simpa [dstN, hoj] using q))
  · obtain ⟨q1, q2⟩ := List.mem_filter.1 hj
    intro hh
    rcases List.mem_cons.1 hh with e | e
    · subst e; simp at q2
    · exact hLt.out j q1 e
  · obtain ⟨q1, q2⟩ := List.mem_filter.1 hj
    obtain ⟨u, hu, e1, z, hz, hz2⟩ := hLt.val j q1
    refine ⟨u, hu, e1, z, hz, f4 _ _ hz2 ?_⟩
    cases hb1 : isBox u.2.2 with
    | false => exact .inl rfl
    | true =>
      cases hb2 : isBox t'.2.2 with
      | false => exact .inr rfl
      | true =>
        have := hT.box u hu t' ht hb1 hb2
        subst this
        subst e1
        simp at q2
  · refine ⟨hA.defers, by simp [Act.put, hA.size], fun s hs => ?_⟩
    simp only [Act.put]
    by_cases e : t'.2.1 = s
    · subst e
      have hlt : t'.2.1 < a.tmps.size := (Array.getElem?_eq_some_iff.1 hv).1
      rw [Array.getElem?_setIfInBounds_self, if_pos (by rw [hA.size]; exact hlt)]
      exact hv.symm
    · rw [Array.getElem?_setIfInBounds_ne e]
      refine hA.same s ?_
      cases hm : memN (dss ops (D ++ E)) s with
      | false => rfl
      | true =>
        obtain ⟨i, hi, hdi⟩ := dss_mem.1 hm
        have hne : i ≠ t'.1 := fun q => by subst q; rw [hdt] at hdi; injection hdi with hdi; exact e hdi
        rw [dss_mem.2 ⟨i, ?_, hdi⟩] at hs
        · simp at hs
        · rcases List.mem_append.1 hi with q | q
          · exact List.mem_append_left _ q
          · exact List.mem_append_right _ (List.mem_filter.2 ⟨q, by simpa using hne⟩)
theorem Cfg0.mats {S R D : List Nat} {T : Lts} {listed : Array Bool} {a : Act} {b : Beg} (hreg : regOk ops = true) (hT : LtOk P nt ops T) : ∀ (M : Lts) {L E : List Nat} {γ : List Value} {ω : Own} {st : St} {x : Act}, Cfg0 P nt ops b γ ω w st x a L S R T D E listed → (∀ t ∈ M, t ∈ T ∧ t.1 ∈ E) → (M.map (·.1)).Nodup →
    ∃ γ' ω' x' L' E', Cfg0 P nt ops b γ' ω' w (matS M st) x' a L' S R T D E' listed ∧ (∀ i, i ∈ L' ↔ i ∈ L ∨ i ∈ M.map (·.1)) ∧ (∀ i, i ∈ E' ↔ i ∈ E ∧ i ∉ M.map (·.1))
  | [], L, E, γ, ω, st, x, hc, hm, hn => ⟨γ, ω, x, L, E, hc, by simp, by simp⟩
  | t :: r, L, E, γ, ω, st, x, hc, hm, hn => by
    rw [List.map_cons, List.nodup_cons] at hn
    obtain ⟨γ1, ω1, x1, _, h1⟩ := hc.mat1 hreg hT (hm t (by simp)).1 (hm t (by simp)).2
    obtain ⟨γ2, ω2, x2, L', E', h2, h3, h4⟩ := Cfg0.mats hreg hT r h1 (fun u hu => ⟨(hm u (List.mem_cons_of_mem _ hu)).1, List.mem_filter.2 ⟨(hm u (List.mem_cons_of_mem _ hu)).2, by
      have : u.1 ≠ t.1 := fun e => hn.1 (e ▸ List.mem_map_of_mem hu)
      simpa using this⟩⟩) hn.2
    refine ⟨γ2, ω2, x2, L', E', h2, fun i => ?_, fun i => ?_⟩
    · rw [h3 i, List.mem_cons, List.map_cons, List.mem_cons]
      exact ⟨fun h => h.elim (fun h => h.elim (fun e => .inr (.inl e)) .inl) (fun h => .inr (.inr h)), fun h => h.elim (fun h => .inl (.inr h)) (fun h => h.elim (fun e => .inl (.inl e)) .inr)⟩
    · rw [h4 i, List.mem_filter, List.map_cons, List.mem_cons, not_or]
      exact ⟨fun ⟨⟨p, q⟩, s⟩ => ⟨p, by simpa using q, s⟩, fun ⟨p, q, s⟩ => ⟨⟨p, by simpa using q⟩, s⟩⟩

/-- The late ones that an operation waits for; and the others. -/
def matM (T : Lts) (o : Oper) : Lts := T.filter fun t => bindsOn o t.1
def matR (T : Lts) (o : Oper) : Lts := T.filter fun t => !bindsOn o t.1
/-- An operation looks at no late one but those that it waits for. -/
def okK (ops : Array Oper) (T : Lts) (o : Oper) : Bool := (matR T o).all fun t => !(o.looksAt ops).contains t.2.1 && o.dst != some t.2.1
theorem LtOk.sub {T T' : Lts} (h : LtOk P nt ops T) (hs : ∀ t ∈ T', t ∈ T) : LtOk P nt ops T' :=
  ⟨fun t ht => h.op t (hs t ht), fun t ht t' ht' => h.one t (hs t ht) t' (hs t' ht'), fun t ht t' ht' => h.key t (hs t ht) t' (hs t' ht'), fun t ht t' ht' => h.box t (hs t ht) t' (hs t' ht')⟩

theorem DrV.all {L S R : List Nat} {T : Lts} (hT : LtOk P nt ops T) (hTn : (T.map (·.1)).Nodup) (hTL : ∀ t ∈ T, t.1 ∉ L) {K : St → Prop} (hreg : regOk ops = true) {rs : List Nat} (hrs : nextOf ops (T.map (·.1) ++ L) = rs) (hne : rs ≠ [])
    (h : ∀ j ∈ rs, ∃ o, ops[j]? = some o ∧ okOne ops o (restOf ops R j) = true ∧ okK ops T o = true ∧ Steps1 P nt ops o j (matS (matM T o) st) (fun st' => stillAll P nt ops st' (restOf ops S j) ∧ DrV P nt ops (j :: ((matM T o).map (·.1) ++ L)) (restOf ops S j) (restOf ops R j) (matR T o) st' K)) : DrV P nt ops L S R T st K := by
  intro b γ ω w x a D E listed fuel Q hc hun hq
  obtain ⟨m, hm⟩ : ∃ m, m ∈ rs := by cases rs with
    | nil => exact absurd rfl hne
    | cons m r => exact ⟨m, by simp⟩
  have hmL : m < ops.size ∧ m ∉ L ∧ ∀ t ∈ T, t.1 ≠ m := by
    rw [← hrs] at hm
    obtain ⟨h1, h2⟩ := List.mem_filter.1 hm
    have h3 : m ∉ T.map (·.1) ++ L := fun e => by simp [memN_iff.2 e] at h2
    rw [List.mem_append, not_or] at h3
    exact ⟨List.mem_range.1 h1, h3.2, fun t ht e => h3.1 (e ▸ List.mem_map_of_mem ht)⟩
  have hmE : ∀ {γ : List Value} {ω : Own} {w : World} {x a : Act} {D E : List Nat} {listed : Array Bool}, Cfg P nt ops b γ ω w st x a L S R T D E listed → listed.getD m false = false := by
    intro γ ω w x a D E listed hc
    cases hl : listed.getD m false with
    | false => rfl
    | true =>
      rcases List.mem_append.1 ((hc.inv.mem m hmL.1).1 hl).1 with q | q
      · obtain ⟨t, ht, e, _⟩ := hc.lt.val m q
        exact absurd e (hmL.2.2 t ht)
      · exact absurd q hmL.2.1
  induction fuel generalizing γ ω w D E listed x a with
  | zero =>
    have := un_zero (Nat.le_zero.1 hun) (i := m) (by rw [hc.inv.size]; exact hmL.1)
    rw [hmE hc] at this; simp at this
  | succ fuel ih =>
    refine ⟨fun hr => ?_, fun k hk => ?_⟩
    · have := ready_nil hreg hc.inv.size hr m hmL.1
      rw [hmE hc] at this; simp at this
    · obtain ⟨hlt, hu⟩ := ready_un hc.inv.size hk
      have hun' : un (listed.setIfInBounds k true) ≤ fuel := by have := un_set (by rw [hc.inv.size]; exact hlt) hu; omega
      rcases Classical.em (k ∈ D) with hkD | hkD
      · refine wpOp_mono (fun a' w' hh => ?_) (hc.pend hreg hT hkD hk Q)
        obtain ⟨rfl, x', hc'⟩ := hh
        exact ih γ ω _ x' _ (D.filter (· != k)) E _ hc' hun'
      · have hkEL : k ∉ E ++ L := fun e => by
          have := (hc.inv.mem k hlt).2 ⟨e, hkD⟩
          rw [this] at hu; simp at hu
        rw [List.mem_append, not_or] at hkEL
        rcases Classical.em (∃ t ∈ T, t.1 = k) with ⟨t, ht, e⟩ | hkT
        · -- a late one is done: nothing is told
          subst e
          obtain ⟨o, g1, g2, g3, g4, g5⟩ := hT.op t ht
          obtain ⟨v, ω1, w', r1, r2, r3, r4⟩ := g5 hc.rel a
          have r4' : LV γ ω1 w' b.w.heap.size t.2.2 v := by
            revert r4
            cases t.2.2 with
            | val m => exact id
            | box cs => exact fun ⟨k, cur, e, h1, h2, h3⟩ => ⟨k, cur, e, h1, Nat.le_trans hc.base.size h2, h3⟩
          have hfin : Cfg P nt ops b γ ω1 w' st x (a.put (some t.2.1) v) L S R T D (t.1 :: E) (listed.setIfInBounds t.1 true) := by
            refine ⟨hc.inv.set (by simp) hkD (fun i hi => by simp [hi]), hc.dl, hc.ds, ⟨fun i hi hr => (hc.wt.reg i hi hr).keeps r2.keeps, hc.wt.still, hc.wt.apt⟩, ⟨fun i hi => ?_, fun i hi => ?_, hc.lt.off⟩, hc.rel.grow r2 r3, ?_, hc.base.trans (r2.mono (fun _ h => h.elim))⟩
            · rcases List.mem_cons.1 hi with q | q
              · rw [q]; exact hkEL.2
              · exact hc.lt.out i q
            · have hsz : t.2.1 < a.tmps.size := by rw [← hc.ag.size, hc.rel.size]; exact g3
              rcases List.mem_cons.1 hi with q | q
              · refine ⟨t, ht, q.symm, v, ?_, r4'⟩
                simp only [Act.put]; rw [Array.getElem?_setIfInBounds_self, if_pos hsz]
              · obtain ⟨t', ht', e', v', hv', hr'⟩ := hc.lt.val i q
                refine ⟨t', ht', e', v', ?_, hr'.chg (fun h => h) r2⟩
                have : t.2.1 ≠ t'.2.1 := fun e2 => hkEL.1 (by rw [hT.one t ht t' ht' e2, e']; exact q)
                simp only [Act.put]; rw [Array.getElem?_setIfInBounds_ne this]; exact hv'
            · refine ⟨hc.ag.defers, by simp [Act.put, hc.ag.size], fun s hs => ?_⟩
              have hdk : dstN ops t.1 = some t.2.1 := by simp [dstN, g1, g2]
              have hne : t.2.1 ≠ s := fun e2 => by
                rw [dss_mem.2 ⟨t.1, List.mem_append_right _ (by simp), by rw [hdk, e2]⟩] at hs; simp at hs
              simp only [Act.put]
              rw [Array.getElem?_setIfInBounds_ne hne]
              refine hc.ag.same s ?_
              cases hm' : memN (dss ops (D ++ E)) s with
              | false => rfl
              | true =>
                obtain ⟨i, hi, hdi⟩ := dss_mem.1 hm'
                rw [dss_mem.2 ⟨i, ?_, hdi⟩] at hs
                · simp at hs
                · rcases List.mem_append.1 hi with q | q
                  · exact List.mem_append_left _ q
                  · exact List.mem_append_right _ (List.mem_cons_of_mem _ q)
          unfold wpOp
          simp only [g1]
          have hw : Region.wanted o (yielded ops a.tmps) = true := by unfold Region.wanted; rw [g4]
          rw [hw]
          simp only [if_true]
          refine .inl ?_
          unfold Oper.wp
          rw [r1, Oper.upon_value, g2]
          exact ih γ ω1 w' x _ D (t.1 :: E) _ hfin hun'
        · obtain ⟨_, o, ho, hall⟩ := mem_ready.1 hk
          have hpre : ∀ e ∈ o.after, Region.binds .any e = true → (e.on ∈ E ∨ e.on ∈ L) ∧ e.on ∉ D := fun e he hb => by
            have h1 := hall e he hb
            have hlt' : e.on < ops.size := by have := (regOk_get hreg ho).1 e he hb; omega
            have := (hc.inv.mem e.on hlt').1 h1
            exact ⟨List.mem_append.1 this.1, this.2⟩
          have hET : ∀ i ∈ E, i ∈ T.map (·.1) := fun i hi => by
            obtain ⟨t, ht, e, _⟩ := hc.lt.val i hi
            exact e ▸ List.mem_map_of_mem ht
          have hkrs : k ∈ rs := by
            rw [← hrs]
            refine List.mem_filter.2 ⟨List.mem_range.2 hlt, ?_⟩
            have h1 : memN (T.map (·.1) ++ L) k = false := by
              cases hm' : memN (T.map (·.1) ++ L) k with
              | false => rfl
              | true =>
                rcases List.mem_append.1 (memN_iff.1 hm') with q | q
                · obtain ⟨t, ht, e⟩ := List.mem_map.1 q
                  exact absurd ⟨t, ht, e⟩ hkT
                · exact absurd q hkEL.2
            simp only [h1, ho, Bool.not_false, Bool.true_and, Array.all_eq_true_iff_forall_mem, Bool.or_eq_true, Bool.not_eq_true']
            intro e he
            cases hb : Region.binds .any e with
            | false => exact .inl rfl
            | true =>
              refine .inr (memN_iff.2 (List.mem_append.2 ?_))
              exact (hpre e he hb).1.elim (fun q => .inl (hET _ q)) .inr
          obtain ⟨o', ho', hone, hokk, hg⟩ := h k hkrs
          rw [ho] at ho'; injection ho' with ho'; subst ho'
          have hbind : ∀ i, bindsOn o i = true → (i ∈ E ∨ i ∈ L) ∧ i ∉ D := fun i hb => by
            obtain ⟨e, he, hb⟩ := Array.any_eq_true'.1 hb
            simp only [Bool.and_eq_true, beq_iff_eq] at hb
            exact hb.2 ▸ hpre e he hb.1
          have hMT : ∀ t ∈ matM T o, t ∈ T ∧ t.1 ∈ E := fun t ht => by
            obtain ⟨q1, q2⟩ := List.mem_filter.1 ht
            exact ⟨q1, ((hbind t.1 q2).1).resolve_right (hTL t q1)⟩
          obtain ⟨γ1, ω1, x0, L', E', hc0, hL', hE'⟩ := hc.c0.mats hreg hT (matM T o) hMT (hTn.sublist (List.filter_sublist.map _))
          have hl : ∀ s ∈ o.looksAt ops, memN (dss ops (D ++ E')) s = false := by
            intro s hs
            cases hm' : memN (dss ops (D ++ E')) s with
            | false => rfl
            | true =>
              exfalso
              obtain ⟨i, hi, hdi⟩ := dss_mem.1 hm'
              rcases List.mem_append.1 hi with q | q
              · have := dss_mem.2 ⟨i, q, hdi⟩
                rw [ready_apart2 hreg hc0.inv hc0.wt0.get hk ho s hs] at this; simp at this
              · obtain ⟨t, ht, e, _⟩ := hc0.lt.val i q
                obtain ⟨ot, f1, f2, _⟩ := hT.op t ht
                have hdi' : t.2.1 = s := by rw [← e] at hdi; simpa [dstN, f1, f2] using hdi
                have hnb : bindsOn o t.1 = false := by
                  cases hb : bindsOn o t.1 with
                  | false => rfl
                  | true => exact absurd (e ▸ List.mem_map_of_mem (List.mem_filter.2 ⟨ht, hb⟩) : i ∈ (matM T o).map (·.1)) ((hE' i).1 q).2
                have := List.all_eq_true.1 hokk t (List.mem_filter.2 ⟨ht, by rw [hnb]; rfl⟩)
                simp only [Bool.and_eq_true, Bool.not_eq_true'] at this
                rw [List.contains_iff_mem.2 (hdi' ▸ hs)] at this; simp at this
          refine wpOp_mono (fun a' w' hh => ?_) (hg hc0.rel hc0.ag hl Q)
          obtain ⟨γ', ω', st', x', h1, h2, ⟨h3, h4⟩, h5, ⟨v, h6⟩, u, h7⟩ := hh
          have hrest : ∀ (U : List Nat), ∀ i ∈ D, i ∈ U → i ∈ restOf ops U k := fun U i hi hT => by
            simp only [restOf, ho]
            refine List.mem_filter.2 ⟨hT, ?_⟩
            cases hb : bindsOn o i with
            | false => rfl
            | true => exact absurd hi (hbind i hb).2
          have hback : ∀ (U : List Nat), ∀ i ∈ restOf ops U k, i ∈ U := fun U i hi => by
            simp only [restOf, ho] at hi
            exact (List.mem_filter.1 hi).1
          have hER : ∀ i ∈ E', ∃ t ∈ matR T o, t.1 = i ∧ ∃ v, a.tmps[t.2.1]? = some v ∧ LV γ1 ω1 w b.w.heap.size t.2.2 v := fun i hi => by
            obtain ⟨t, ht, e, q⟩ := hc0.lt.val i hi
            refine ⟨t, List.mem_filter.2 ⟨ht, ?_⟩, e, q⟩
            cases hb : bindsOn o t.1 with
            | false => rfl
            | true => exact absurd (e ▸ List.mem_map_of_mem (List.mem_filter.2 ⟨ht, hb⟩) : i ∈ (matM T o).map (·.1)) ((hE' i).1 hi).2
          have hkE' : k ∉ E' := fun q => hkEL.1 ((hE' k).1 q).1
          refine h4 b γ' ω' w' x' a' D E' _ fuel Q ⟨⟨by simp [hc.inv.size], fun i hi => ?_⟩, fun i hi => ?_, fun i hi => ?_, ⟨fun i hi hr => ?_, fun i hi hr => ?_, hc.wt.apt.sub (hback S) (hback R)⟩, ⟨fun i hi => ?_, fun i hi => ?_, fun i hi t ht oi hoi => ?_⟩, h2, h5, hc0.base.trans h1⟩ hun' hq
          · by_cases e : k = i
            · subst e
              have : k < listed.size := by rw [hc.inv.size]; exact hi
              simp [this, hkD]
            · rw [getD_set_ne false e, hc0.inv.mem i hi]
              simp only [List.mem_append, List.mem_cons, hL' i]
              constructor
              · rintro ⟨p, q⟩
                exact ⟨p.elim .inl (fun p => p.elim (fun p => .inr (.inr (.inr p))) (fun p => .inr (.inr (.inl p)))), q⟩
              · rintro ⟨p, q⟩
                refine ⟨p.elim .inl (fun p => p.elim (fun p => absurd p.symm e) (fun p => p.elim (fun p => .inr (.inr p)) (fun p => .inr (.inl p)))), q⟩
          · exact List.mem_cons_of_mem _ (List.mem_append_right _ (hc.dl i hi))
          · rcases hc.ds i hi with q | q
            · exact .inl (hrest S i hi q)
            · exact .inr (hrest R i hi q)
          · have hr0 := (hc0.wt0.reg i hi (hback R i hr)).keeps h1.keeps
            cases hd : o.dst with
            | none => exact hr0.tm (by rw [h6, hd]; rfl)
            | some d =>
              obtain ⟨q1, q2⟩ := okOne_ok hone hd i hr
              exact (hr0.put hreg (e := d) (v := v) q1 q2).tm (by rw [h6, hd])
          · have hr' : i ∉ R := fun q => hr (hrest R i hi q)
            obtain ⟨q1, q2⟩ := hc0.wt0.still i hi hr'
            exact ⟨hrest S i hi q1, stillAll_get h3 i (hrest S i hi q1)⟩
          · intro q
            rcases List.mem_cons.1 q with q | q
            · subst q; exact hkE' hi
            · refine hc0.lt.out i hi ((hL' i).2 ?_)
              exact (List.mem_append.1 q).elim .inr .inl
          · obtain ⟨t, ht, e, z, hz, hr⟩ := hER i hi
            refine ⟨t, ht, e, z, ?_, hr.chg (fun h => h rfl) h1⟩
            rw [h7]
            have hne2 := List.all_eq_true.1 hokk t ht
            simp only [Bool.and_eq_true, bne_iff_ne, ne_eq] at hne2
            cases hd : o.dst with
            | none => exact hz
            | some d =>
              have : d ≠ t.2.1 := fun q => hne2.2 (by rw [hd, q])
              simp only [Act.put]; rw [Array.getElem?_setIfInBounds_ne this]; exact hz
          · exact hc.lt.off i hi t (List.mem_filter.1 ht).1 oi hoi

/-- A region whose order is open. -/
theorem PW.dregV {nB : Nat} {Q : PX → St → Prop} {id : Nat} (hm : P.follows .mixedOrders = true) (hreg : regOk ops = true) {T : Lts} (h : DrV P nt ops [] [] [] T st (fun st' => Q .normal st')) : PW P nt nB (.region id ops true) st Q := by
  intro γ ω w a R hr hk
  refine wp_region_any hm ?_
  have hc : Chg (fun _ => False) γ ω w γ ω { w with drawn := w.drawn + 1 } := ⟨rfl, rfl, rfl, Nat.le_refl _, fun _ _ h => h, fun _ _ h => ⟨rfl, h⟩, fun _ _ _ h _ => ⟨rfl, h⟩⟩
  have hr' : Rel γ ω { w with drawn := w.drawn + 1 } nt st a := hr.grow hc hr.lt
  refine h ⟨γ, ω, { w with drawn := w.drawn + 1 }⟩ γ ω _ a a [] [] _ ops.size R ⟨⟨by simp, fun i hi => ?_⟩, by simp, by simp, ⟨by simp, by simp, by simp [Apt]⟩, ⟨by simp, by simp, by simp⟩, hr', Ag.refl _ _, Chg.refl _ _ _ _⟩ ?_ (fun γ' ω' w' st' a' h1 h2 h3 => ?_)
  · simp [hi]
  · have hs : (Array.replicate ops.size false).size = ops.size := by simp
    unfold un
    rw [hs]
    exact Nat.le_trans (List.length_filter_le _ _) (by simp)
  · exact hk .normal _ _ _ _ _ ((hc.mono (fun _ h => h.elim)).trans h1).toN h2 h3

end
end Go.Pv
