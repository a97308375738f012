/- The library of this work, H texts, part B: types, operands, operations on numbers, bools, strings and structs. -/
import Derived.Test.YtlfbfhgoehndpaaGreatDoorHA
set_option linter.unusedVariables false
set_option linter.unusedSimpArgs false
namespace Go.Pv

/-! ### Types -/
inductive TK where
  | bool | int (k : IntKind) | str | slice (e : TypeId) | strct (fs : List (Nat × TypeId)) | arr (n : Nat) (e : TypeId) | map (k e : TypeId) | ptr (e : TypeId) | func | iface | other
  deriving DecidableEq

structure TI where
  kd : TK
  size : Nat
  bytes : Nat
  zero : List MV

def mvZero : Value → Option MV
  | .bool b => some (.bool b)
  | .int k n => some (.int k n)
  | .string s => some (.str s)
  | .pointer none => some .nilptr
  | .slice none 0 0 => some .nil
  | .map none => some (.map [])
  | .nilFunc => some .nilfn
  | .nilIface => some .nilifc
  | _ => none

def tkOf : TypeDesc → TK
  | .bool => .bool
  | .int k => .int k
  | .string => .str
  | .slice e => .slice e
  | .struct fs => .strct (fs.toList.map fun f => (f.offset, f.type))
  | .array n e => .arr n e
  | .map k e => .map k e
  | .pointer e => .ptr e
  | .func .. => .func
  | .interface _ => .iface
  | _ => .other

def zerosOf : List Value → Option (List MV)
  | [] => some []
  | v :: r => match mvZero v, zerosOf r with
    | some m, some l => some (m :: l)
    | _, _ => none

def aggKd : TK → Bool
  | .strct _ | .arr _ _ => true
  | _ => false

def isAggV : Value → Bool
  | .agg _ => true
  | _ => false

def tiOf (P : Program) (T : TypeId) : Option TI :=
  match P.info? T, P.underlying T with
  | some i, some d => match i.zero with
    | some z => match zerosOf z.cells.toList with
      | some l => if l.length = i.size ∧ isAggV z = aggKd (tkOf d) then some ⟨tkOf d, i.size, i.bytes, l⟩ else none
      | none => none
    | none => none
  | _, _ => none

theorem mvZero_rep {γ : List Value} {ω : Own} {w : World} {v : Value} {m : MV} (h : mvZero v = some m) : Rep γ ω w m v ∧ v.oneCell' = true := by
  unfold mvZero at h
  split at h <;> first | (injection h with h; subst h; refine ⟨?_, rfl⟩; first | exact .bool _ | exact .int _ _ | exact .str _ | exact .nilptr | exact .nil | exact .map0 | exact .nilfn | exact .nilifc) | exact absurd h (by simp)

theorem zerosOf_rep {γ : List Value} {ω : Own} {w : World} : ∀ {vs : List Value} {l : List MV}, zerosOf vs = some l → vs.length = l.length ∧ (∀ v ∈ vs, v.oneCell' = true) ∧ ∀ (i : Nat) (c : MV) (v : Value), l[i]? = some c → vs[i]? = some v → Rep γ ω w c v
  | [], l, h => by
    simp [zerosOf] at h; subst h; simp
  | v :: r, l, h => by
    unfold zerosOf at h
    split at h
    · rename_i m l' hm hl
      injection h with h; subst h
      obtain ⟨h1, h2, h3⟩ := zerosOf_rep (γ := γ) (ω := ω) (w := w) hl
      obtain ⟨hr, ho⟩ := mvZero_rep (γ := γ) (ω := ω) (w := w) hm
      refine ⟨by simp [h1], by simpa using ⟨ho, h2⟩, fun i c u hc hu => ?_⟩
      cases i with
      | zero => simp at hc hu; subst hc; subst hu; exact hr
      | succ i => exact h3 i c u (by simpa using hc) (by simpa using hu)
    · exact absurd h (by simp)

structure Ty (P : Program) (T : TypeId) (ti : TI) : Prop where
  info : ∃ i z, P.info? T = some i ∧ i.size = ti.size ∧ i.bytes = ti.bytes ∧ i.zero = some z ∧ zerosOf z.cells.toList = some ti.zero ∧ ti.zero.length = ti.size ∧ isAggV z = aggKd ti.kd
  und : ∃ d, P.underlying T = some d ∧ tkOf d = ti.kd

theorem ty_of {P : Program} {T : TypeId} {ti : TI} (h : tiOf P T = some ti) : Ty P T ti := by
  unfold tiOf at h
  split at h
  · rename_i i d hi hd
    split at h
    · rename_i z hz
      split at h
      · rename_i l hl
        split at h
        · rename_i hc
          injection h with h
          subst h
          exact ⟨⟨i, z, hi, rfl, rfl, hz, hl, hc.1, hc.2⟩, ⟨d, hd, rfl⟩⟩
        · exact absurd h (by simp)
      · exact absurd h (by simp)
    · exact absurd h (by simp)
  · exact absurd h (by simp)

def mvConst : Value → Option MV
  | .agg cs => (zerosOf cs.toList).map .agg
  | v => mvZero v

/-- A nil slice, read as a list. -/
def MV.top : MV → MV
  | .nil => .list []
  | m => m

theorem Rep.top {γ : List Value} {ω : Own} {w : World} {m : MV} {v : Value} (h : Rep γ ω w m v) : Rep γ ω w m.top v := by
  cases m <;> first | exact h | (cases h; exact .list0 _ _)

theorem const_rep {γ : List Value} {ω : Own} {w : World} {v : Value} {m : MV} (h : mvConst v = some m) : Rep γ ω w m v := by
  unfold mvConst at h
  split at h
  · rename_i cs
    cases hz : zerosOf cs.toList with
    | none => rw [hz] at h; simp at h
    | some l =>
      rw [hz] at h; simp at h; subst h
      obtain ⟨h1, h2, h3⟩ := zerosOf_rep (γ := γ) (ω := ω) (w := w) hz
      have := Rep.agg l cs.toList h1 h3 h2
      simpa using this
  · exact (mvZero_rep h).1

/-- A value that is shared, or that one object is. -/
def Val (γ : List Value) (ω : Own) (w : World) (m : MV) (v : Value) : Prop :=
  Rep γ ω w m v ∨ (∃ k sz es e xs, m = .list es ∧ RowR γ ω w (.ob k) [] false sz es v e xs) ∨ (∃ k mm blk es clock, m = .map mm ∧ v = .map (some blk) ∧ MapR γ ω w (.ob k) [] false mm blk es clock)

theorem Val.rep {γ : List Value} {ω : Own} {w : World} {m : MV} {v : Value} (h : Val γ ω w m v) (h1 : ∀ es, m ≠ .list es) (h2 : ∀ es, m ≠ .map es) : Rep γ ω w m v := by
  rcases h with h | ⟨k, sz, es, e, xs, h, _⟩ | ⟨k, mm, blk, es, clock, h, _⟩
  · exact h
  · exact absurd h (h1 _)
  · exact absurd h (h2 _)
theorem Val.int {γ : List Value} {ω : Own} {w : World} {k : IntKind} {n : Int} {v : Value} (h : Val γ ω w (.int k n) v) : v = .int k n := by
  cases h.rep (by simp) (by simp); rfl
theorem Val.bool {γ : List Value} {ω : Own} {w : World} {b : Bool} {v : Value} (h : Val γ ω w (.bool b) v) : v = .bool b := by
  cases h.rep (by simp) (by simp); rfl
theorem Val.str {γ : List Value} {ω : Own} {w : World} {s : ByteArray} {v : Value} (h : Val γ ω w (.str s) v) : v = .string s := by
  cases h.rep (by simp) (by simp); rfl
theorem Val.agg {γ : List Value} {ω : Own} {w : World} {cs : List MV} {v : Value} (h : Val γ ω w (.agg cs) v) : Rep γ ω w (.agg cs) v := h.rep (by simp) (by simp)
theorem Val.ptr {γ : List Value} {ω : Own} {w : World} {b off : Nat} {v : Value} (h : Val γ ω w (.ptr b off) v) : ∃ blk, γ[b]? = some (.pointer (some ⟨blk, 0, none⟩)) ∧ v = .pointer (some ⟨blk, off, none⟩) := by
  cases h.rep (by simp) (by simp); rename_i blk hb; exact ⟨blk, hb, rfl⟩
theorem Val.cptr {γ : List Value} {ω : Own} {w : World} {cs : List MV} {off : Nat} {v : Value} (h : Val γ ω w (.cptr cs off) v) : Rep γ ω w (.cptr cs off) v := h.rep (by simp) (by simp)

/-- Every slice's value has its list's length. -/
theorem row_slice {w : World} {sz n : Nat} {v : Value} {e : TypeId} {xs : List Value} (h : w.ownsRow 0 e sz v n xs) : ∃ A cap, v = .slice A n cap := by
  rcases h.2 with ⟨rfl, h0⟩ | ⟨g, cap, cur, rfl, _⟩
  · exact ⟨none, 0, by rw [h0]⟩
  · exact ⟨_, cap, rfl⟩
theorem Val.list {γ : List Value} {ω : Own} {w : World} {es : List (List MV)} {v : Value} (h : Val γ ω w (.list es) v) : ∃ A cap, v = .slice A es.length cap := by
  rcases h with h | ⟨k, sz, es', e, xs, h, hr⟩ | ⟨k, mm, blk, es, clock, h, _⟩
  · cases h
    · exact ⟨_, _, rfl⟩
    · exact ⟨_, _, rfl⟩
  · injection h with h; subst h; exact row_slice hr.own
  · exact absurd h (by simp)
theorem Val.chg {γ γ' : List Value} {ω ω' : Own} {w w' : World} {T : Owner → Prop} (hc : Chg T γ ω w γ' ω' w') (ht : ∀ k p, ¬ T (.ob k p)) {m : MV} {v : Value} (h : Val γ ω w m v) : Val γ' ω' w' m v := by
  rcases h with h | ⟨k, sz, es', e, xs, h, hr⟩ | ⟨k, mm, blk, es, clock, h, h2, hr⟩
  · exact .inl (h.chg hc)
  · exact .inr (.inl ⟨k, sz, es', e, xs, h, hr.moved hc.keeps (fun p b hb h0 => hc.keep b _ hb h0 (ht k p))⟩)
  · exact .inr (.inr ⟨k, mm, blk, es, clock, h, h2, hr.moved hc.keeps (fun p b hb h0 => hc.keep b _ hb h0 (ht k p))⟩)

/-- What an operand reads. -/
def rdc (st : St) (m : MV) : Option MV := match m with
  | .ref k => match st.B[k]? with
    | some (some (.row false _ es [])) => some (.list es)
    | some (some (.map false es [])) => some (.map es)
    | _ => none
  | .gone => none
  | m => some m.top

def opv (st : St) : Operand → Option MV
  | .tmp t => rdc st (lk st.v t)
  | .const v => (mvConst v).map MV.top
  | .func f => some (.fn f [])
  | .global _ => none

/-- The value of an operand as it is. -/
def shv (st : St) : Operand → Option MV
  | .tmp t => some (lk st.v t)
  | .const v => mvConst v
  | .func f => some (.fn f [])
  | .global _ => none


theorem Rel.val {γ : List Value} {ω : Own} {w : World} {nt : Nat} {st : St} {a : Act} (h : Rel γ ω w nt st a) {x : Operand} {m : MV} (hx : opv st x = some m) : Val γ ω w m (a.eval x) := by
  cases x with
  | tmp t =>
    have hs := h.slots t
    simp only [opv] at hx
    show Val γ ω w m (a.tmps.getD t undef)
    generalize a.tmps.getD t undef = v at hs ⊢
    generalize lk st.v t = c at hs hx
    unfold rdc at hx
    split at hx
    · rename_i k
      split at hx
      · rename_i sz es hk
        injection hx with hx; subst hx
        obtain ⟨hd, h1, e, xs, h2⟩ := h.objs k _ hk
        cases hs with
        | ref _ _ hb _ _ => rw [h1] at hb; injection hb with hb; subst hb; exact .inr (.inl ⟨k, sz, es, e, xs, rfl, h2⟩)
      · rename_i es hk
        injection hx with hx; subst hx
        obtain ⟨hd, h1, blk, es', clock, h2, h3⟩ := h.objs k _ hk
        cases hs with
        | ref _ _ hb _ _ => rw [h1] at hb; injection hb with hb; subst hb; exact .inr (.inr ⟨k, es, blk, es', clock, rfl, h2, h3⟩)
      · exact absurd hx (by simp)
    · exact absurd hx (by simp)
    · injection hx with hx; subst hx; exact .inl hs.top
  | const v =>
    simp only [opv] at hx
    show Val γ ω w m v
    cases hm : mvConst v with
    | none => rw [hm] at hx; simp at hx
    | some m' =>
      rw [hm] at hx; simp at hx; subst hx
      exact .inl (const_rep hm).top
  | func f =>
    simp only [opv] at hx
    injection hx with hx; subst hx
    exact .inl (.fn f [] [] rfl (by simp))
  | global g => simp [opv] at hx

theorem Rel.shv {γ : List Value} {ω : Own} {w : World} {nt : Nat} {st : St} {a : Act} (h : Rel γ ω w nt st a) {x : Operand} {m : MV} (hx : Go.Pv.shv st x = some m) : Rep γ ω w m (a.eval x) := by
  cases x with
  | tmp t => simp only [Go.Pv.shv] at hx; injection hx with hx; subst hx; exact h.slots t
  | const v => exact const_rep hx
  | func f => simp only [Go.Pv.shv] at hx; injection hx with hx; subst hx; exact .fn f [] [] rfl (by simp)
  | global g => simp [Go.Pv.shv] at hx


end Go.Pv
section M2b
/- A library of this session: structs are compared. -/
namespace Go.Pv

def leaves (f : TypeId → Option (List TK)) (P : Program) : List Field → Nat → Option (List TK)
  | [], _ => some []
  | x :: r, o => if x.name = "_" ∨ x.offset ≠ o then none else match f x.type, tiOf P x.type with
    | some n, some ti => if ti.size = n.length then (match leaves f P r (o + n.length) with
        | some m => some (n ++ m)
        | none => none) else none
    | _, _ => none

/-- The cells of a type, all of which can be compared one by one. -/
def eqLeaf (P : Program) : Nat → TypeId → Option (List TK)
  | 0, _ => none
  | d + 1, T => match P.underlying T with
    | some .bool => some [.bool]
    | some (.int k) => some [.int k]
    | some .string => some [.str]
    | some (.struct fs) => if P.stoodInHeld T = true then none else leaves (eqLeaf P d) P fs.toList 0
    | _ => none

/-- The cells of a type that is compared cell by cell. -/
def eqTy (P : Program) (T : TypeId) : Option (List TK) := if P.eqGuardType P.depth T = true then none else match tiOf P T, eqLeaf P 20 T with
  | some ti, some l => if aggKd ti.kd = true ∧ ti.size = l.length then some l else none
  | _, _ => none

def eq1 : TK → MV → MV → Option Bool
  | .bool, .bool a, .bool b => some (a == b)
  | .int _, .int k a, .int k' b => if k = k' then some (decide (a = b)) else none
  | .str, .str a, .str b => some (decide (a = b))
  | _, _, _ => none

def eqCells : List TK → List MV → List MV → Option Bool
  | [], [], [] => some true
  | t :: q, x :: r, y :: s => match eq1 t x y, eqCells q r s with
    | some a, some b => some (a && b)
    | _, _ => none
  | _, _, _ => none

theorem eqCells_len : ∀ {ts : List TK} {xs ys : List MV} {b : Bool}, eqCells ts xs ys = some b → xs.length = ts.length ∧ ys.length = ts.length
  | [], [], [], b, h => by simp
  | [], [], _ :: _, b, h => by simp [eqCells] at h
  | [], _ :: _, _, b, h => by simp [eqCells] at h
  | _ :: _, [], _, b, h => by simp [eqCells] at h
  | _ :: _, _ :: _, [], b, h => by simp [eqCells] at h
  | t :: q, x :: r, y :: s, b, h => by
    simp only [eqCells] at h
    cases h2 : eqCells q r s with
    | none => rw [h2] at h; cases eq1 t x y <;> simp at h
    | some c => have := eqCells_len h2; simp; exact this

theorem eqCells_split : ∀ (ts us : List TK) (xs ys : List MV) (b : Bool), eqCells (ts ++ us) xs ys = some b → ∃ b1 b2, eqCells ts (xs.take ts.length) (ys.take ts.length) = some b1 ∧ eqCells us (xs.drop ts.length) (ys.drop ts.length) = some b2 ∧ b = (b1 && b2)
  | [], us, xs, ys, b, h => ⟨true, b, by simp [eqCells], by simpa using h, by simp⟩
  | t :: q, us, [], ys, b, h => by simp [eqCells] at h
  | t :: q, us, x :: r, [], b, h => by simp [eqCells] at h
  | t :: q, us, x :: r, y :: s, b, h => by
    simp only [List.cons_append, eqCells] at h
    cases h1 : eq1 t x y with
    | none => rw [h1] at h; simp at h
    | some a =>
      cases h2 : eqCells (q ++ us) r s with
      | none => rw [h1, h2] at h; simp at h
      | some c =>
        rw [h1, h2] at h
        simp only [Option.some.injEq] at h
        obtain ⟨b1, b2, e1, e2, e3⟩ := eqCells_split q us r s c h2
        refine ⟨a && b1, b2, ?_, e2, ?_⟩
        · simp only [List.length_cons, List.take_succ_cons, eqCells, h1, e1]
        · rw [← h, e3, Bool.and_assoc]

section
variable {P : Program} {γ : List Value} {ω : Own} {w : World}

theorem bytes_eq0 (a b : ByteArray) : (a.toList == b.toList) = decide (a = b) := by
  rw [← beq_toListBytes]
  by_cases h : a = b
  · subst h; rw [beq_toListBytes]; simp
  · rw [decide_eq_false h]
    have : ¬ (a == b) = true := by
      rw [beq_toListBytes]
      simp only [beq_iff_eq]
      intro e
      rw [ByteArray.toList_eq, ByteArray.toList_eq] at e
      apply h
      obtain ⟨⟨x⟩⟩ := a
      obtain ⟨⟨y⟩⟩ := b
      simp at e
      rw [e]
    simpa using this

theorem isAgg_run {T : TypeId} {ti : TI} (h : Ty P T ti) : (isAgg T).run P w = .ok (aggKd ti.kd) w := by
  obtain ⟨d, hd, hk⟩ := h.und
  unfold isAgg
  simp only [Sem.run_bind, run_underlying hd, Result.andThen_ok]
  rw [← hk]
  cases d <;> rfl

theorem size_run {T : TypeId} {ti : TI} (h : Ty P T ti) : (sizeOf T).run P w = .ok ti.size w := by
  obtain ⟨i, z, h1, h2, _⟩ := h.info
  simp [sizeOf, typeInfo, h1, h2]

/-- A part of a struct. -/
theorem part_run {T : TypeId} {ti : TI} (h : Ty P T ti) (us : List Value) (o : Nat) (hl : o + ti.size ≤ us.length) (h1 : aggKd ti.kd = false → ti.size = 1) :
    (part T us.toArray o).run P w = .ok (if aggKd ti.kd = true then .agg ((us.drop o).take ti.size).toArray else ((us.drop o).take ti.size).getD 0 undef) w := by
  unfold part
  simp only [Sem.run_bind, isAgg_run h, Result.andThen_ok]
  cases hk : aggKd ti.kd with
  | true =>
    simp only [if_true, Sem.run_bind, size_run h, Result.andThen_ok, Sem.run_pure]
    congr 2
    simp [List.extract_eq_take_drop]
  | false =>
    have h2 := h1 hk
    have hlt : o < us.length := by omega
    simp [h2, hlt, List.getElem?_take]

/-- What two values of a type that is compared cell by cell come to. -/
def EqAt (P : Program) (d T : Nat) (ts : List TK) : Prop := ∀ (γ : List Value) (ω : Own) (w : World) (xs ys : List MV) (us vs : List Value) (b : Bool), us.length = ts.length → vs.length = ts.length →
  (∀ (i : Nat) (c : MV) (v : Value), xs[i]? = some c → us[i]? = some v → Rep γ ω w c v) → (∀ (i : Nat) (c : MV) (v : Value), ys[i]? = some c → vs[i]? = some v → Rep γ ω w c v) → eqCells ts xs ys = some b →
  ∀ ti, tiOf P T = some ti → ti.size = ts.length → (Op.equalIn d T (if aggKd ti.kd = true then .agg us.toArray else us.getD 0 undef) (if aggKd ti.kd = true then .agg vs.toArray else vs.getD 0 undef)).run P w = .ok b w

theorem eqFields_run (D d : Nat) (ih : ∀ T ts, eqLeaf P d T = some ts → EqAt P (d + D) T ts ∧ (∀ ti, tiOf P T = some ti → aggKd ti.kd = false → ts.length = 1)) : ∀ (fs : List Field) (o : Nat) (ts : List TK), leaves (eqLeaf P d) P fs o = some ts → ∀ (xs ys : List MV) (us vs : List Value) (b : Bool), us.length = o + ts.length → vs.length = o + ts.length →
  (∀ (i : Nat) (c : MV) (v : Value), xs[i]? = some c → us[i]? = some v → Rep γ ω w c v) → (∀ (i : Nat) (c : MV) (v : Value), ys[i]? = some c → vs[i]? = some v → Rep γ ω w c v) → eqCells ts (xs.drop o) (ys.drop o) = some b →
  (Op.eqFields (d + D) us.toArray vs.toArray fs).run P w = .ok b w
  | [], o, ts, h, xs, ys, us, vs, b, h1, h2, hx, hy, hb => by
    simp only [leaves, Option.some.injEq] at h
    subst h
    have hl := eqCells_len hb
    have e1 : xs.drop o = [] := List.eq_nil_of_length_eq_zero (by simpa using hl.1)
    have e2 : ys.drop o = [] := List.eq_nil_of_length_eq_zero (by simpa using hl.2)
    rw [e1, e2] at hb
    simp only [eqCells, Option.some.injEq] at hb
    subst hb
    simp [Op.eqFields]
  | f :: r, o, ts, h, xs, ys, us, vs, b, h1, h2, hx, hy, hb => by
    unfold leaves at h
    split at h
    · exact absurd h (by simp)
    · rename_i hc
      have hname : f.name ≠ "_" := fun e => hc (.inl e)
      have hoff : f.offset = o := Classical.byContradiction fun e => hc (.inr e)
      split at h
      · rename_i m ti hm hti
        split at h
        · rename_i hsz
          split at h
          · rename_i q hq
            injection h with h; subst h
            obtain ⟨g1, g2⟩ := ih _ _ hm
            have hT := ty_of hti
            rw [List.length_append] at h1 h2
            obtain ⟨b1, b2, e1, e2, e3⟩ := eqCells_split m q _ _ b hb
            have hus : ((us.drop o).take m.length).length = m.length := by simp; omega
            have hvs : ((vs.drop o).take m.length).length = m.length := by simp; omega
            have sub : ∀ {xs : List MV} {us : List Value}, (∀ (i : Nat) (c : MV) (v : Value), xs[i]? = some c → us[i]? = some v → Rep γ ω w c v) → ∀ (i : Nat) (c : MV) (v : Value), ((xs.drop o).take m.length)[i]? = some c → ((us.drop o).take m.length)[i]? = some v → Rep γ ω w c v := by
              intro xs us hx i c v hc hv
              rw [List.getElem?_take] at hc hv
              split at hc
              · rename_i hi
                rw [if_pos hi] at hv
                rw [List.getElem?_drop] at hc hv
                exact hx _ _ _ hc hv
              · exact absurd hc (by simp)
            have hrun := g1 γ ω w _ _ _ _ b1 hus hvs (sub hx) (sub hy) e1 ti hti hsz
            have p1 := part_run (P := P) (w := w) hT us o (by omega) (fun hk => by rw [hsz]; exact g2 ti hti hk)
            have p2 := part_run (P := P) (w := w) hT vs o (by omega) (fun hk => by rw [hsz]; exact g2 ti hti hk)
            rw [hsz] at p1 p2
            simp only [Op.eqFields, ne_eq, hname, not_false_eq_true, if_true, Sem.run_bind, hoff, p1, p2, Result.andThen_ok, hrun, Sem.run_ite, Sem.run_pure]
            rw [List.drop_drop, List.drop_drop] at e2
            have hrest := eqFields_run D d ih r (o + m.length) q hq xs ys us vs b2 (by omega) (by omega) hx hy e2
            cases b1 with
            | false => simp [e3]
            | true => simp only [Bool.not_true, Bool.false_eq_true, if_false, e3, Bool.true_and]; exact hrest
          · exact absurd h (by simp)
        · exact absurd h (by simp)
      · exact absurd h (by simp)

theorem eqLeaf_run (D : Nat) : ∀ (d : Nat) (T : Nat) (ts : List TK), eqLeaf P d T = some ts → EqAt P (d + D) T ts ∧ (∀ ti, tiOf P T = some ti → aggKd ti.kd = false → ts.length = 1)
  | 0, T, n, h => by simp [eqLeaf] at h
  | d + 1, T, ts, h => by
    unfold eqLeaf at h
    have plain : ∀ {dd : TypeDesc} {t : TK}, P.underlying T = some dd → aggKd (tkOf dd) = false → ts = [t] → (∀ (m1 m2 : MV) (u v : Value) (γ : List Value) (ω : Own) (w : World) (b : Bool), Rep γ ω w m1 u → Rep γ ω w m2 v → eq1 t m1 m2 = some b → (Op.equalIn (d + D + 1) T u v).run P w = .ok b w) →
        EqAt P (d + 1 + D) T ts ∧ (∀ ti, tiOf P T = some ti → aggKd ti.kd = false → ts.length = 1) := by
      intro dd t hd hk hn hrun
      subst hn
      refine ⟨fun γ ω w xs ys us vs b h1 h2 hx hy hb ti hti hsz => ?_, fun _ _ _ => rfl⟩
      obtain ⟨d2, hd2, hkd⟩ := (ty_of hti).und
      rw [hd] at hd2; injection hd2 with hd2; subst hd2
      rw [← hkd, hk]
      simp only [Bool.false_eq_true, if_false]
      obtain ⟨h3, h4⟩ := eqCells_len hb
      obtain ⟨x, rfl⟩ := List.length_eq_one_iff.1 h3
      obtain ⟨y, rfl⟩ := List.length_eq_one_iff.1 h4
      obtain ⟨u, rfl⟩ := List.length_eq_one_iff.1 h1
      obtain ⟨v, rfl⟩ := List.length_eq_one_iff.1 h2
      simp only [eqCells] at hb
      cases he : eq1 t x y with
      | none => rw [he] at hb; simp at hb
      | some b1 =>
        rw [he] at hb
        simp only [Bool.and_true, Option.some.injEq] at hb
        subst hb
        rw [show d + 1 + D = (d + D) + 1 from by omega]
        exact hrun x y u v γ ω w b1 (hx 0 x u rfl rfl) (hy 0 y v rfl rfl) he
    split at h
    · rename_i hd
      injection h with h
      refine plain hd rfl h.symm (fun m1 m2 u v γ ω w b r1 r2 he => ?_)
      cases r1 <;> cases r2 <;> simp [eq1] at he
      subst he
      exact run_equalIn_bool' w _ T _ _ hd
    · rename_i k hd
      injection h with h
      refine plain hd rfl h.symm (fun m1 m2 u v γ ω w b r1 r2 he => ?_)
      cases r1 <;> cases r2 <;> simp [eq1] at he
      obtain ⟨h1, h2⟩ := he
      subst h1; subst h2
      rw [run_equalIn_int w _ T _ _ _ _ hd]
      simp [BEq.beq]
    · rename_i hd
      injection h with h
      refine plain hd rfl h.symm (fun m1 m2 u v γ ω w b r1 r2 he => ?_)
      cases r1 <;> cases r2 <;> simp [eq1] at he
      subst he
      rw [run_equalIn_string w _ T _ _ hd, bytes_eq0]
    · rename_i fs hd
      split at h
      · exact absurd h (by simp)
      · rename_i hst
        refine ⟨fun γ ω w xs ys us vs b h1 h2 hx hy hb ti hti hsz => ?_, fun ti hti hk => ?_⟩
        · obtain ⟨d2, hd2, hkd⟩ := (ty_of hti).und
          rw [hd] at hd2; injection hd2 with hd2; subst hd2
          have hk : aggKd ti.kd = true := by rw [← hkd]; rfl
          rw [hk]
          simp only [if_true]
          have hf : P.fieldsOf T = fs := by simp [Program.fieldsOf, hd]
          rw [show d + 1 + D = (d + D) + 1 from by omega, run_equalIn_struct w (d + D) T us.toArray vs.toArray (by rw [hf]; exact hd) (by simpa using hst), hf]
          exact eqFields_run D d (fun T n h => eqLeaf_run D d T n h) fs.toList 0 ts h xs ys us vs b (by omega) (by omega) hx hy (by simpa using hb)
        · obtain ⟨d2, hd2, hkd⟩ := (ty_of hti).und
          rw [hd] at hd2; injection hd2 with hd2; subst hd2
          rw [← hkd] at hk
          exact absurd hk (by simp [tkOf, aggKd])
    · exact absurd h (by simp)

/-- Two structs are compared. -/
theorem eqTy_run {T : TypeId} {ts : List TK} (h : eqTy P T = some ts) {xs ys : List MV} {u v : Value} (hu : Rep γ ω w (.agg xs) u) (hv : Rep γ ω w (.agg ys) v) {b : Bool} (hb : eqCells ts xs ys = some b) (x y : Operand) :
    (do eqGuard .eql T x y u v; binOp .eql T u v : Sem Value).run P w = .ok (.bool b) w ∧ (do eqGuard .neq T x y u v; binOp .neq T u v : Sem Value).run P w = .ok (.bool (!b)) w := by
  unfold eqTy at h
  split at h
  · exact absurd h (by simp)
  · rename_i hg
    split at h
    · rename_i ti l hti hl
      split at h
      · rename_i hc
        injection h with h; subst h
        obtain ⟨D, hD⟩ : ∃ D, 10000 = 20 + D := ⟨9980, rfl⟩
        obtain ⟨h1, _⟩ := eqLeaf_run D 20 T l hl
        obtain ⟨e1, e2⟩ := eqCells_len hb
        cases hu with
        | agg _ us hlu hru _ =>
          cases hv with
          | agg _ vs hlv hrv _ =>
            have := h1 γ ω w xs ys us vs b (by omega) (by omega) hru hrv hb ti hti hc.2
            rw [hc.1] at this
            simp only [if_true] at this
            have hg2 : P.eqGuardType P.depth T = false := by simpa using hg
            refine ⟨?_, ?_⟩
            · simp only [Sem.run_bind, run_eqGuard_agg w .eql T x y _ _ hg2, Result.andThen_ok, run_eql_struct w T]
              rw [hD, this]; rfl
            · simp only [Sem.run_bind, run_eqGuard_agg w .neq T x y _ _ hg2, Result.andThen_ok, run_neq_struct w T]
              rw [hD, this]; rfl
      · exact absurd h (by simp)
    · exact absurd h (by simp)
end
end Go.Pv

end M2b
section M3
/- A library of this session: operations on numbers, bools and strings. -/
namespace Go.Pv

theorem bytes_eq (a b : ByteArray) : (a.toList == b.toList) = decide (a = b) := by
  have h : a.toList = b.toList ↔ a = b := by
    constructor
    · intro h
      rw [ByteArray.toList_eq, ByteArray.toList_eq] at h
      exact ByteArray.ext (Array.toList_inj.1 h)
    · intro h; rw [h]
  by_cases e : a = b
  · simp [e]
  · simp [e, h]

def sless (a b : ByteArray) : Bool := Op.bytesLess a.toList b.toList

def bitI (op : BinOp) (k : IntKind) (x y : Int) : Int :=
  let a := BitVec.ofInt k.bits x
  let b := BitVec.ofInt k.bits y
  match op with
  | .and => k.wrap (a &&& b).toNat
  | .or => k.wrap (a ||| b).toNat
  | .xor => k.wrap (a ^^^ b).toNat
  | _ => k.wrap (a &&& ~~~b).toNat

def binInt (op : BinOp) (k : IntKind) (a b : Int) (K : MV → Prop) : Prop :=
  match op with
  | .add => K (.int k (k.wrap (a + b)))
  | .sub => K (.int k (k.wrap (a - b)))
  | .mul => K (.int k (k.wrap (a * b)))
  | .quo => b ≠ 0 ∧ K (.int k (k.wrap (a.tdiv b)))
  | .rem => b ≠ 0 ∧ K (.int k (a.tmod b))
  | .and => K (.int k (bitI .and k a b))
  | .or => K (.int k (bitI .or k a b))
  | .xor => K (.int k (bitI .xor k a b))
  | .andNot => K (.int k (bitI .andNot k a b))
  | .eql => K (.bool (decide (a = b)))
  | .neq => K (.bool (!decide (a = b)))
  | .lss => K (.bool (decide (a < b)))
  | .leq => K (.bool (decide (a ≤ b)))
  | .gtr => K (.bool (decide (a > b)))
  | .geq => K (.bool (decide (a ≥ b)))
  | .shl | .shr => False

def binStr (op : BinOp) (a b : ByteArray) (K : MV → Prop) : Prop :=
  match op with
  | .add => a.size + b.size ≤ 9223372036854775807 ∧ K (.str (a ++ b))
  | .eql => K (.bool (decide (a = b)))
  | .neq => K (.bool (!decide (a = b)))
  | .lss => K (.bool (sless a b))
  | .leq => K (.bool (sless a b || decide (a = b)))
  | .gtr => K (.bool (!(sless a b || decide (a = b))))
  | .geq => K (.bool (!(sless a b)))
  | _ => False

def kdOf (P : Program) (T : TypeId) : TK := match tiOf P T with | some ti => ti.kd | none => .other

theorem und_of_kd {P : Program} {T : TypeId} {k : TK} (h : kdOf P T = k) (hk : k ≠ .other) : ∃ d, P.underlying T = some d ∧ tkOf d = k := by
  unfold kdOf at h
  split at h
  · rename_i ti hti
    obtain ⟨d, h1, h2⟩ := (ty_of hti).und
    exact ⟨d, h1, h2.trans h⟩
  · exact absurd h.symm hk

def binP (P : Program) (op : BinOp) (T : TypeId) (x y : MV) (K : MV → Prop) : Prop :=
  match x, y with
  | .int k a, .int k' b =>
    match op with
    | .shl => 0 ≤ b ∧ K (.int k (k.wrap (a * 2 ^ (min b.toNat k.bits))))
    | .shr => 0 ≤ b ∧ K (.int k (a.fdiv (2 ^ (min b.toNat k.bits))))
    | op => if k = k' then binInt op k a b K else False
  | .str a, .str b => binStr op a b K
  | .bool a, .bool b =>
    match op with
    | .eql => kdOf P T = .bool ∧ K (.bool (a == b))
    | .neq => kdOf P T = .bool ∧ K (.bool (!(a == b)))
    | _ => False
  | .ptr _ _, .nilptr | .cptr _ _, .nilptr =>
    match op with
    | .eql => (∃ e, kdOf P T = .ptr e) ∧ K (.bool false)
    | .neq => (∃ e, kdOf P T = .ptr e) ∧ K (.bool true)
    | _ => False
  | .nilifc, .nilifc =>
    match op with
    | .eql => kdOf P T = .iface ∧ K (.bool true)
    | .neq => kdOf P T = .iface ∧ K (.bool false)
    | _ => False
  | .ifc _ _, .nilifc =>
    match op with
    | .eql => kdOf P T = .iface ∧ K (.bool false)
    | .neq => kdOf P T = .iface ∧ K (.bool true)
    | _ => False
  | .nilptr, .nilptr =>
    match op with
    | .eql => (∃ e, kdOf P T = .ptr e) ∧ K (.bool true)
    | .neq => (∃ e, kdOf P T = .ptr e) ∧ K (.bool false)
    | _ => False
  | .ptr k o, .ptr k' o' =>
    match op with
    | .eql => (k = k' ∧ o = o') ∧ (∃ e ti, kdOf P T = .ptr e ∧ tiOf P e = some ti) ∧ K (.bool true)
    | .neq => (k = k' ∧ o = o') ∧ (∃ e ti, kdOf P T = .ptr e ∧ tiOf P e = some ti) ∧ K (.bool false)
    | _ => False
  | .agg xs, .agg ys => match eqTy P T with
    | some ts => match eqCells ts xs ys with
      | some b => (match op with
        | .eql => K (.bool b)
        | .neq => K (.bool (!b))
        | _ => False)
      | none => False
    | none => False
  | _, _ => False

theorem tk_bool {d : TypeDesc} (h : tkOf d = .bool) : d = .bool := by cases d <;> simp [tkOf] at h ⊢
theorem tk_int {d : TypeDesc} {k : IntKind} (h : tkOf d = .int k) : d = .int k := by cases d <;> simp [tkOf] at h ⊢; exact h
theorem tk_str {d : TypeDesc} (h : tkOf d = .str) : d = .string := by cases d <;> simp [tkOf] at h ⊢
theorem tk_slice {d : TypeDesc} {e : TypeId} (h : tkOf d = .slice e) : d = .slice e := by cases d <;> simp [tkOf] at h ⊢; exact h
theorem tk_ptr {d : TypeDesc} {e : TypeId} (h : tkOf d = .ptr e) : d = .pointer e := by cases d <;> simp [tkOf] at h ⊢; exact h
theorem tk_iface {d : TypeDesc} (h : tkOf d = .iface) : ∃ ms, d = .interface ms := by cases d <;> simp [tkOf] at h ⊢
theorem tk_map {d : TypeDesc} {k e : TypeId} (h : tkOf d = .map k e) : d = .map k e := by cases d <;> simp [tkOf] at h ⊢; exact h
theorem tk_strct {d : TypeDesc} {fs : List (Nat × TypeId)} (h : tkOf d = .strct fs) : ∃ avs : Array Field, d = .struct avs ∧ fs = avs.toList.map fun f => (f.offset, f.type) := by
  cases d <;> simp [tkOf] at h ⊢; exact h.symm

section
variable {P : Program} {γ : List Value} {ω : Own} {w : World}

theorem run_eqlBool {T : TypeId} {a b : Bool} (hT : kdOf P T = .bool) : (Op.equal T (.bool a) (.bool b)).run P w = .ok (a == b) w := by
  obtain ⟨d, hd, hk⟩ := und_of_kd hT (by simp)
  have := tk_bool hk; subst this
  have key : ∀ n, (Op.equalIn (n + 1) T (.bool a) (.bool b)).run P w = .ok (a == b) w := fun n => by simp [Op.equalIn, run_underlying hd]
  exact key 9999

theorem run_eqlPtr {T e : TypeId} {a : Option Addr} (hT : kdOf P T = .ptr e) : (Op.equal T (.pointer a) (.pointer none)).run P w = .ok a.isNone w := by
  obtain ⟨d, hd, hk⟩ := und_of_kd hT (by simp)
  have := tk_ptr hk; subst this
  have key : ∀ n, (Op.equalIn (n + 1) T (.pointer a) (.pointer none)).run P w = .ok a.isNone w := fun n => by cases a <;> simp [Op.equalIn, run_underlying hd]
  exact key 9999

theorem run_eqlSlice {T e : TypeId} {a : Addr} {n c c' : Nat} (hT : kdOf P T = .slice e) : (Op.equal T (.slice (some a) n c) (.slice none 0 c')).run P w = .ok false w := by
  obtain ⟨d, hd, hk⟩ := und_of_kd hT (by simp)
  have := tk_slice hk; subst this
  have key : ∀ k, (Op.equalIn (k + 1) T (.slice (some a) n c) (.slice none 0 c')).run P w = .ok false w := fun n => by simp [Op.equalIn, run_underlying hd]
  exact key 9999

theorem run_eqlNil2 {T e : TypeId} {n c : Nat} (hT : kdOf P T = .slice e) : (Op.equal T (.slice none n c) (.slice none 0 0)).run P w = .ok true w := by
  obtain ⟨d, hd, hk⟩ := und_of_kd hT (by simp)
  have := tk_slice hk; subst this
  have key : ∀ k, (Op.equalIn (k + 1) T (.slice none n c) (.slice none 0 0)).run P w = .ok true w := fun n => by simp [Op.equalIn, run_underlying hd]
  exact key 9999

theorem run_eqlNil {T e : TypeId} (hT : kdOf P T = .slice e) : (Op.equal T (.slice none 0 0) (.slice none 0 0)).run P w = .ok true w := by
  obtain ⟨d, hd, hk⟩ := und_of_kd hT (by simp)
  have := tk_slice hk; subst this
  have key : ∀ k, (Op.equalIn (k + 1) T (.slice none 0 0) (.slice none 0 0)).run P w = .ok true w := fun n => by simp [Op.equalIn, run_underlying hd]
  exact key 9999

theorem run_eqlIfc {T : TypeId} (hT : kdOf P T = .iface) : (Op.equal T .nilIface .nilIface).run P w = .ok true w := by
  obtain ⟨d, hd, hk⟩ := und_of_kd hT (by simp)
  obtain ⟨ms, this⟩ := tk_iface hk; subst this
  have key : ∀ n, (Op.equalIn (n + 1) T .nilIface .nilIface).run P w = .ok true w := fun n => by simp [Op.equalIn, run_underlying hd]
  exact key 9999

theorem run_eqlIfc2 {T : TypeId} {t : TypeId} {v : Value} (hT : kdOf P T = .iface) : (Op.equal T (.iface t v) .nilIface).run P w = .ok false w := by
  obtain ⟨d, hd, hk⟩ := und_of_kd hT (by simp)
  obtain ⟨ms, this⟩ := tk_iface hk; subst this
  have key : ∀ n, (Op.equalIn (n + 1) T (.iface t v) .nilIface).run P w = .ok false w := fun n => by simp [Op.equalIn, run_underlying hd]
  exact key 9999
theorem run_eqlPtrS {T e : TypeId} {a : Addr} {ti : TI} (hT : kdOf P T = .ptr e) (hti : tiOf P e = some ti) : (Op.equal T (.pointer (some a)) (.pointer (some a))).run P w = .ok true w := by
  obtain ⟨d, hd, hk⟩ := und_of_kd hT (by simp)
  have := tk_ptr hk; subst this
  have key : ∀ n, (Op.equalIn (n + 1) T (.pointer (some a)) (.pointer (some a))).run P w = .ok true w := fun n => by
    obtain ⟨i, z, h1, h2, _⟩ := (ty_of hti).info
    simp [Op.equalIn, run_underlying hd, sizeOf, typeInfo, h1, h2, sameAddr]
  exact key 9999

theorem binInt_run {op : BinOp} {k : IntKind} {a b : Int} {K : MV → Prop} {T : TypeId} (h : binInt op k a b K) : ∃ m v, (binOp op T (.int k a) (.int k b)).run P w = .ok v w ∧ Rep γ ω w m v ∧ K m := by
  cases op <;> simp only [binInt] at h <;> first
    | exact h.elim
    | (obtain ⟨h0, h⟩ := h; refine ⟨_, _, ?_, .int _ _, h⟩; simp [binOp, Op.intDiv, h0])
    | (refine ⟨_, _, ?_, .int _ _, h⟩; simp [binOp, Op.intArith, Op.intBits, bitI])
    | (refine ⟨_, _, ?_, .bool _, h⟩; simp only [binOp, Op.intCmp, ne_eq, not_true_eq_false, if_false]; rfl)

theorem binStr_run {op : BinOp} {a b : ByteArray} {K : MV → Prop} {T : TypeId} (h : binStr op a b K) : ∃ m v, (binOp op T (.string a) (.string b)).run P w = .ok v w ∧ Rep γ ω w m v ∧ K m := by
  cases op <;> simp only [binStr] at h <;> first
    | exact h.elim
    | (obtain ⟨h0, h⟩ := h
       refine ⟨_, _, ?_, Rep.str _, h⟩
       have : ¬ (((a.size + b.size : Nat) : Int) > IntKind.i64.max) := by simp [IntKind.max, IntKind.bits, IntKind.signed]; omega
       simp only [binOp, Op.stringOp]
       rw [if_neg this]; rfl)
    | (refine ⟨_, _, ?_, Rep.bool _, h⟩; simp [binOp, Op.stringOp, bytes_eq, sless])

theorem eqGuard_int {op : BinOp} {T : TypeId} {x y : Operand} {a b : Value} (h1 : ∀ cs, a ≠ .agg cs) (h2 : a ≠ .nilIface) : (eqGuard op T x y a b).run P w = .ok () w := by
  cases a <;> first
    | exact absurd rfl (h1 _)
    | exact absurd rfl h2
    | (unfold eqGuard; cases op <;> simp)

theorem binP_run {op : BinOp} {T : TypeId} {m1 m2 : MV} {v1 v2 : Value} {K : MV → Prop} (h1 : Val γ ω w m1 v1) (h2 : Val γ ω w m2 v2) (h : binP P op T m1 m2 K) (x y : Operand)
    (hn : v1 = .nilIface → ∃ c, y = .const c) :
    ∃ m v, (do eqGuard op T x y v1 v2; binOp op T v1 v2 : Sem Value).run P w = .ok v w ∧ Rep γ ω w m v ∧ K m := by
  unfold binP at h
  split at h
  · rename_i k a k' b
    have e1 := h1.int; have e2 := h2.int; subst e1; subst e2
    have hg : (eqGuard op T x y (.int k a) (.int k' b)).run P w = .ok () w := eqGuard_int (by simp) (by simp)
    simp only [Sem.run_bind, hg, Result.andThen_ok]
    split at h
    · obtain ⟨h0, h⟩ := h
      refine ⟨_, _, ?_, .int _ _, h⟩
      simp [binOp, Op.shift, Int.not_lt.2 h0]
    · obtain ⟨h0, h⟩ := h
      refine ⟨_, _, ?_, .int _ _, h⟩
      simp [binOp, Op.shift, Int.not_lt.2 h0]
    · split at h
      · rename_i hk; subst hk; exact binInt_run h
      · exact h.elim
  · rename_i a b
    have e1 := h1.str; have e2 := h2.str; subst e1; subst e2
    have hg : (eqGuard op T x y (.string a) (.string b)).run P w = .ok () w := eqGuard_int (by simp) (by simp)
    simp only [Sem.run_bind, hg, Result.andThen_ok]
    exact binStr_run h
  · rename_i a b
    have e1 := h1.bool; have e2 := h2.bool; subst e1; subst e2
    have hg : (eqGuard op T x y (.bool a) (.bool b)).run P w = .ok () w := eqGuard_int (by simp) (by simp)
    simp only [Sem.run_bind, hg, Result.andThen_ok]
    split at h
    · exact ⟨_, _, by simp [binOp, run_eqlBool h.1], .bool _, h.2⟩
    · exact ⟨_, _, by simp [binOp, run_eqlBool h.1], .bool _, h.2⟩
    · exact h.elim
  · rename_i b off
    obtain ⟨blk, hb, rfl⟩ := h1.ptr
    have e2 : v2 = .pointer none := by cases h2.rep (by simp) (by simp); rfl
    subst e2
    have hg : ∀ a, (eqGuard op T x y (.pointer a) (.pointer none)).run P w = .ok () w := fun a => eqGuard_int (by simp) (by simp)
    simp only [Sem.run_bind, hg, Result.andThen_ok]
    split at h
    · obtain ⟨⟨e, he⟩, h⟩ := h
      exact ⟨_, _, by simp [binOp, run_eqlPtr he], .bool _, h⟩
    · obtain ⟨⟨e, he⟩, h⟩ := h
      exact ⟨_, _, by simp [binOp, run_eqlPtr he], .bool _, h⟩
    · exact h.elim
  · rename_i b off
    have e1 := h1.cptr
    have e2 : v2 = .pointer none := by cases h2.rep (by simp) (by simp); rfl
    subst e2
    have hg : ∀ a, (eqGuard op T x y (.pointer a) (.pointer none)).run P w = .ok () w := fun a => eqGuard_int (by simp) (by simp)
    cases e1
    simp only [Sem.run_bind, hg, Result.andThen_ok]
    split at h
    · obtain ⟨⟨e, he⟩, h⟩ := h
      exact ⟨_, _, by simp [binOp, run_eqlPtr he], .bool _, h⟩
    · obtain ⟨⟨e, he⟩, h⟩ := h
      exact ⟨_, _, by simp [binOp, run_eqlPtr he], .bool _, h⟩
    · exact h.elim
  · have e1 : v1 = .nilIface := by cases h1.rep (by simp) (by simp); rfl
    have e2 : v2 = .nilIface := by cases h2.rep (by simp) (by simp); rfl
    subst e1; subst e2
    obtain ⟨c, rfl⟩ := hn rfl
    have hg : (eqGuard op T x (.const c) .nilIface .nilIface).run P w = .ok () w := by
      unfold eqGuard; cases op <;> simp
    simp only [Sem.run_bind, hg, Result.andThen_ok]
    split at h
    · exact ⟨_, _, by simp [binOp, run_eqlIfc h.1], .bool _, h.2⟩
    · exact ⟨_, _, by simp [binOp, run_eqlIfc h.1], .bool _, h.2⟩
    · exact h.elim
  · rename_i ti c
    have e1 : ∃ v, v1 = .iface ti v := by cases h1.rep (by simp) (by simp); exact ⟨_, rfl⟩
    obtain ⟨u, rfl⟩ := e1
    have e2 : v2 = .nilIface := by cases h2.rep (by simp) (by simp); rfl
    subst e2
    have hg : (eqGuard op T x y (.iface ti u) .nilIface).run P w = .ok () w := eqGuard_int (by simp) (by simp)
    simp only [Sem.run_bind, hg, Result.andThen_ok]
    split at h
    · exact ⟨_, _, by simp [binOp, run_eqlIfc2 h.1], .bool _, h.2⟩
    · exact ⟨_, _, by simp [binOp, run_eqlIfc2 h.1], .bool _, h.2⟩
    · exact h.elim
  · have e1 : v1 = .pointer none := by cases h1.rep (by simp) (by simp); rfl
    have e2 : v2 = .pointer none := by cases h2.rep (by simp) (by simp); rfl
    subst e1; subst e2
    have hg : ∀ a, (eqGuard op T x y (.pointer a) (.pointer none)).run P w = .ok () w := fun a => eqGuard_int (by simp) (by simp)
    simp only [Sem.run_bind, hg, Result.andThen_ok]
    split at h
    · obtain ⟨⟨e, he⟩, h⟩ := h
      exact ⟨_, _, by simp [binOp, run_eqlPtr he], .bool _, h⟩
    · obtain ⟨⟨e, he⟩, h⟩ := h
      exact ⟨_, _, by simp [binOp, run_eqlPtr he], .bool _, h⟩
    · exact h.elim
  · rename_i k o k' o'
    obtain ⟨blk, hb, rfl⟩ := h1.ptr
    obtain ⟨blk', hb', rfl⟩ := h2.ptr
    have hg : ∀ a b, (eqGuard op T x y (.pointer a) (.pointer b)).run P w = .ok () w := fun a b => eqGuard_int (by simp) (by simp)
    simp only [Sem.run_bind, hg, Result.andThen_ok]
    split at h
    · obtain ⟨⟨rfl, rfl⟩, ⟨e, ti, he, hti⟩, h⟩ := h
      rw [hb] at hb'; injection hb' with hb'; injection hb' with hb'; injection hb' with hb'; injection hb' with hb'; subst hb'
      exact ⟨_, _, by simp [binOp, run_eqlPtrS he hti], .bool _, h⟩
    · obtain ⟨⟨rfl, rfl⟩, ⟨e, ti, he, hti⟩, h⟩ := h
      rw [hb] at hb'; injection hb' with hb'; injection hb' with hb'; injection hb' with hb'; injection hb' with hb'; subst hb'
      exact ⟨_, _, by simp [binOp, run_eqlPtrS he hti], .bool _, h⟩
    · exact h.elim
  · split at h
    · rename_i ts hts
      split at h
      · rename_i b hb
        obtain ⟨g1, g2⟩ := eqTy_run hts h1.agg h2.agg hb x y
        split at h
        · exact ⟨_, _, g1, .bool _, h⟩
        · exact ⟨_, _, g2, .bool _, h⟩
        · exact h.elim
      · exact h.elim
    · exact h.elim
  · exact h.elim

end
end Go.Pv

end M3
