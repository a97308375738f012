/- A library of this session: types, operands, and the operations that only compute. -/
import Derived.Test.YtoakchnegkmepaaM1
set_option linter.unusedVariables false
set_option linter.unusedSimpArgs false
namespace Go.Pv

/-! ### Types -/
inductive TK where
  | bool | int (k : IntKind) | str | slice (e : TypeId) | strct (fs : List (Nat × TypeId)) | arr (n : Nat) (e : TypeId) | map (k e : TypeId) | ptr (e : TypeId) | func | iface | other
  deriving DecidableEq

structure TI where
  kd : TK
  size : Nat
  bytes : Nat
  zero : List MV

def mvZero : Value → Option MV
  | .bool b => some (.bool b)
  | .int k n => some (.int k n)
  | .string s => some (.str s)
  | .pointer none => some .nilptr
  | .slice none 0 0 => some .nil
  | .map none => some (.map [])
  | .nilFunc => some .nilfn
  | .nilIface => some .nilifc
  | _ => none

def tkOf : TypeDesc → TK
  | .bool => .bool
  | .int k => .int k
  | .string => .str
  | .slice e => .slice e
  | .struct fs => .strct (fs.toList.map fun f => (f.offset, f.type))
  | .array n e => .arr n e
  | .map k e => .map k e
  | .pointer e => .ptr e
  | .func .. => .func
  | .interface _ => .iface
  | _ => .other

def zerosOf : List Value → Option (List MV)
  | [] => some []
  | v :: r => match mvZero v, zerosOf r with
    | some m, some l => some (m :: l)
    | _, _ => none

def aggKd : TK → Bool
  | .strct _ | .arr _ _ => true
  | _ => false

def isAggV : Value → Bool
  | .agg _ => true
  | _ => false

def tiOf (P : Program) (T : TypeId) : Option TI :=
  match P.info? T, P.underlying T with
  | some i, some d => match i.zero with
    | some z => match zerosOf z.cells.toList with
      | some l => if l.length = i.size ∧ isAggV z = aggKd (tkOf d) then some ⟨tkOf d, i.size, i.bytes, l⟩ else none
      | none => none
    | none => none
  | _, _ => none

theorem mvZero_rep {γ : List Nat} {ω : Own} {w : World} {v : Value} {m : MV} (h : mvZero v = some m) : Rep γ ω w m v ∧ v.oneCell' = true := by
  unfold mvZero at h
  split at h <;> first | (injection h with h; subst h; refine ⟨?_, rfl⟩; first | exact .bool _ | exact .int _ _ | exact .str _ | exact .nilptr | exact .nil | exact .map0 | exact .nilfn | exact .nilifc) | exact absurd h (by simp)

theorem zerosOf_rep {γ : List Nat} {ω : Own} {w : World} : ∀ {vs : List Value} {l : List MV}, zerosOf vs = some l → vs.length = l.length ∧ (∀ v ∈ vs, v.oneCell' = true) ∧ ∀ (i : Nat) (c : MV) (v : Value), l[i]? = some c → vs[i]? = some v → Rep γ ω w c v
  | [], l, h => by
    simp [zerosOf] at h; subst h; simp
  | v :: r, l, h => by
    unfold zerosOf at h
    split at h
    · rename_i m l' hm hl
      injection h with h; subst h
      obtain ⟨h1, h2, h3⟩ := zerosOf_rep (γ := γ) (ω := ω) (w := w) hl
      obtain ⟨hr, ho⟩ := mvZero_rep (γ := γ) (ω := ω) (w := w) hm
      refine ⟨by simp [h1], by simpa using ⟨ho, h2⟩, fun i c u hc hu => ?_⟩
      cases i with
      | zero => simp at hc hu; subst hc; subst hu; exact hr
      | succ i => exact h3 i c u (by simpa using hc) (by simpa using hu)
    · exact absurd h (by simp)

structure Ty (P : Program) (T : TypeId) (ti : TI) : Prop where
  info : ∃ i z, P.info? T = some i ∧ i.size = ti.size ∧ i.bytes = ti.bytes ∧ i.zero = some z ∧ zerosOf z.cells.toList = some ti.zero ∧ ti.zero.length = ti.size ∧ isAggV z = aggKd ti.kd
  und : ∃ d, P.underlying T = some d ∧ tkOf d = ti.kd

theorem ty_of {P : Program} {T : TypeId} {ti : TI} (h : tiOf P T = some ti) : Ty P T ti := by
  unfold tiOf at h
  split at h
  · rename_i i d hi hd
    split at h
    · rename_i z hz
      split at h
      · rename_i l hl
        split at h
        · rename_i hc
          injection h with h
          subst h
          exact ⟨⟨i, z, hi, rfl, rfl, hz, hl, hc.1, hc.2⟩, ⟨d, hd, rfl⟩⟩
        · exact absurd h (by simp)
      · exact absurd h (by simp)
    · exact absurd h (by simp)
  · exact absurd h (by simp)

/-! ### Contents by name; a slot that is written -/
def Ct.refs (p : Place) : Ct → Bool
  | .al q => q == p
  | .eadr q _ _ => q == p
  | _ => false

def killS (p : Place) (v : List (Nat × Ct)) : List (Nat × Ct) := v.map fun x => (x.1, if x.2.refs p then .dead else x.2)

theorem lk_killS (p : Place) (v : List (Nat × Ct)) (s : Nat) : lk (killS p v) s = if (lk v s).refs p then .dead else lk v s := by
  induction v with
  | nil => simp [killS, lk, Ct.refs]
  | cons x r ih =>
    obtain ⟨k, c⟩ := x
    by_cases h : k = s
    · simp [killS, lk, h]
    · simp only [killS, List.map_cons, lk, h, if_false]
      exact ih

/-- A slot is written. -/
def St.put (st : St) (d : Nat) (c : Ct) : St :=
  { st with v := pt (match lk st.v d with | .own _ _ => killS (.slot d) st.v | _ => st.v) d (if c.refs (.slot d) then .dead else c) }

def putO (st : St) : Option Tmp → Ct → St
  | some d, c => st.put d c
  | none, _ => st

theorem at_killS_own {st : St} {p q : Place} {v : List (Nat × Ct)} (hv : v = killS q st.v) {sz : Nat} {m : MV} (h : st.at p = .own sz m) : ({ st with v := v } : St).at p = .own sz m := by
  subst hv
  cases p with
  | slot s =>
    simp only [St.at] at h ⊢
    rw [lk_killS, h]; simp [Ct.refs]
  | cell k off => exact h

/-- Contents that name no changed place. -/
theorem CtRep.mv {γ : List Nat} {ω : Own} {w : World} {st st' : St} {tmps tmps' : Array Value} {o : Owner} {c : Ct} {v : Value} (h : CtRep γ ω w st tmps o c v)
    (hst : ∀ (p : Place) (sz : Nat) (m : MV), c.refs p = true → st.at p = .own sz m → st'.at p = .own sz m)
    (hcur : ∀ (p : Place) (u : Value), c.refs p = true → p.cur γ tmps w u → p.cur γ tmps' w u) : CtRep γ ω w st' tmps' o c v := by
  cases c with
  | al p =>
    obtain ⟨⟨sz, m, h1⟩, h2⟩ := h
    exact ⟨⟨sz, m, hst p sz m (by simp [Ct.refs]) h1⟩, hcur p v (by simp [Ct.refs]) h2⟩
  | eadr p i off =>
    obtain ⟨sz, es, u, blk, h1, h2, h3, h4, h5⟩ := h
    exact ⟨sz, es, u, blk, hst p sz _ (by simp [Ct.refs]) h1, h2, hcur p u (by simp [Ct.refs]) h3, h4, h5⟩
  | sh m => exact h
  | own sz m => exact h
  | tupc cs => exact h
  | siter s pos => exact h
  | dead => trivial

theorem getD_set {tmps : Array Value} {d s : Nat} {v : Value} (hd : d < tmps.size) : (tmps.setIfInBounds d v).getD s undef = if d = s then v else tmps.getD s undef := by
  simp only [Array.getD_eq_getD_getElem?, Array.getElem?_setIfInBounds, hd]
  by_cases h : d = s
  · simp [h]
  · simp [h]

theorem Rel.put {γ : List Nat} {ω : Own} {w : World} {nt : Nat} {st : St} {a : Act} (h : Rel γ ω w nt st a) {d : Nat} (hd : d < nt) {c : Ct} {v : Value} (hc : CtRep γ ω w st a.tmps (.slot d) c v) :
    Rel γ ω w nt (st.put d c) (a.put (some d) v) := by
  have hsz := h.size
  have key : ∀ (p : Place) (sz : Nat) (m : MV), p ≠ .slot d → st.at p = .own sz m → (st.put d c).at p = .own sz m := by
    intro p sz m hp hat
    cases p with
    | slot s =>
      have hs : d ≠ s := fun e => hp (by rw [e])
      simp only [St.at, St.put, lk_pt, hs, if_false] at hat ⊢
      split
      · rw [lk_killS, hat]; simp [Ct.refs]
      · exact hat
    | cell k off => exact hat
  have kcur : ∀ (p : Place) (u : Value), p ≠ .slot d → p.cur γ a.tmps w u → p.cur γ (a.put (some d) v).tmps w u := by
    intro p u hp hu
    cases p with
    | slot s =>
      have hs : d ≠ s := fun e => hp (by rw [e])
      simp only [Place.cur, Act.put] at hu ⊢
      rw [getD_set (by omega), if_neg hs]; exact hu
    | cell k off => exact hu
  refine ⟨by simp [Act.put, hsz], h.defers, h.lt, h.boxes, fun s => ?_⟩
  have e1 : (a.put (some d) v).tmps.getD s undef = if d = s then v else a.tmps.getD s undef := by simp only [Act.put]; exact getD_set (by omega)
  rw [e1]
  show CtRep γ ω w (st.put d c) (a.put (some d) v).tmps (.slot s) (lk (pt _ d _) s) _
  rw [lk_pt]
  by_cases hs : d = s
  · subst hs
    simp only [if_true]
    by_cases hr : c.refs (.slot d) = true
    · rw [if_pos hr]; trivial
    · rw [if_neg hr]
      refine hc.mv (fun p sz m hp => key p sz m ?_) (fun p u hp => kcur p u ?_)
      · intro e; subst e; exact hr hp
      · intro e; subst e; exact hr hp
  · simp only [hs, if_false]
    have hold := h.slots s
    split
    · rename_i sz0 m0 hown
      rw [lk_killS]
      by_cases hr : (lk st.v s).refs (.slot d) = true
      · rw [if_pos hr]; trivial
      · rw [if_neg hr]
        refine hold.mv (fun p sz m hp => key p sz m ?_) (fun p u hp => kcur p u ?_)
        · intro e; subst e; exact hr hp
        · intro e; subst e; exact hr hp
    · rename_i hno
      have hr : ∀ p, (lk st.v s).refs p = true → p ≠ .slot d := by
        intro p hp e
        subst e
        cases hcs : lk st.v s with
        | al q =>
          rw [hcs] at hold hp
          simp [Ct.refs] at hp
          subst hp
          obtain ⟨⟨sz, m, h1⟩, _⟩ := hold
          exact hno sz m h1
        | eadr q i off =>
          rw [hcs] at hold hp
          simp [Ct.refs] at hp
          subst hp
          obtain ⟨sz, es, u, blk, h1, _⟩ := hold
          exact hno sz _ h1
        | _ => rw [hcs] at hp; simp [Ct.refs] at hp
      exact hold.mv (fun p sz m hp => key p sz m (hr p hp)) (fun p u hp => kcur p u (hr p hp))

theorem Rel.putO {γ : List Nat} {ω : Own} {w : World} {nt : Nat} {st : St} {a : Act} (h : Rel γ ω w nt st a) {d : Option Tmp} (hd : ∀ t, d = some t → t < nt) {c : Ct} {v : Value} (hc : ∀ t, d = some t → CtRep γ ω w st a.tmps (.slot t) c v) :
    Rel γ ω w nt (putO st d c) (a.put d v) := by
  cases d with
  | none => exact h
  | some t => exact h.put (hd t rfl) (hc t rfl)

/-! ### What an operand says -/
def mvConst : Value → Option MV
  | .agg cs => (zerosOf cs.toList).map .agg
  | v => mvZero v

/-- A nil slice, read as a list. -/
def MV.top : MV → MV
  | .nil => .list []
  | m => m

theorem Rep.top {γ : List Nat} {ω : Own} {w : World} {m : MV} {v : Value} (h : Rep γ ω w m v) : Rep γ ω w m.top v := by
  cases m <;> first | exact h | (cases h; exact .list0 _ _)

def rdc (st : St) : Ct → Option MV
  | .sh m => some m.top
  | .own _ m => some m
  | .al p => match st.at p with
    | .own _ m => some m
    | _ => none
  | _ => none

def opv (st : St) : Operand → Option MV
  | .tmp t => rdc st (lk st.v t)
  | .const v => (mvConst v).map MV.top
  | .func f => some (.fn f [])
  | .global _ => none

theorem const_rep {γ : List Nat} {ω : Own} {w : World} {v : Value} {m : MV} (h : mvConst v = some m) : Rep γ ω w m v := by
  unfold mvConst at h
  split at h
  · rename_i cs
    cases hz : zerosOf cs.toList with
    | none => rw [hz] at h; simp at h
    | some l =>
      rw [hz] at h; simp at h; subst h
      obtain ⟨h1, h2, h3⟩ := zerosOf_rep (γ := γ) (ω := ω) (w := w) hz
      have := Rep.agg l cs.toList h1 h3 h2
      simpa using this
  · exact (mvZero_rep h).1

/-- A value that is shared, or held somewhere. -/
def Val (γ : List Nat) (ω : Own) (w : World) (m : MV) (v : Value) : Prop := Rep γ ω w m v ∨ ∃ o sz, OwnRep γ ω w o sz m v

theorem cell_box {γ : List Nat} {ω : Own} {w : World} {B : List (Option (List Ct))} (h : Boxes γ ω w B) {k off : Nat} {cs : List Ct} {c : Ct} (hk : B[k]? = some (some cs)) (hc : cs[off]? = some c) :
    ∃ blk u, γ[k]? = some blk ∧ blk < w.heap.size ∧ ω blk = some (.box k) ∧ w.cell? ⟨blk, off, none⟩ = some u ∧ w.frozen? ⟨blk, off, none⟩ = false ∧ u.oneCell' = true ∧ BoxCt γ ω w k off c u := by
  obtain ⟨blk, cur, e, h1, h2, h3, h4, h5, h6⟩ := h.box k cs hk
  obtain ⟨u, hu, ho, hb⟩ := h6 off c hc
  exact ⟨blk, u, h1, h2, h3, by simp [World.cell?, h4, hu], by simp [World.frozen?, h4], ho, hb⟩

theorem Rel.val {γ : List Nat} {ω : Own} {w : World} {nt : Nat} {st : St} {a : Act} (h : Rel γ ω w nt st a) {x : Operand} {m : MV} (hx : opv st x = some m) : Val γ ω w m (a.eval x) := by
  cases x with
  | tmp t =>
    have hs := h.slots t
    simp only [opv] at hx
    show Val γ ω w m (a.tmps.getD t undef)
    generalize a.tmps.getD t undef = v at hs ⊢
    cases hc : lk st.v t with
    | sh m' => rw [hc] at hx hs; injection hx with hx; subst hx; exact .inl (Rep.top hs)
    | own sz m' => rw [hc] at hx hs; injection hx with hx; subst hx; exact .inr ⟨_, sz, hs⟩
    | al p =>
      rw [hc] at hx hs
      obtain ⟨⟨sz, m', hat⟩, hcur⟩ := hs
      simp only [rdc, hat] at hx
      injection hx with hx; subst hx
      cases p with
      | slot s =>
        have := h.slots s
        simp only [St.at] at hat
        rw [hat] at this
        simp only [Place.cur] at hcur
        rw [hcur] at this
        exact .inr ⟨_, sz, this⟩
      | cell k off =>
        simp only [St.at] at hat
        split at hat
        · rename_i cs hk
          cases ho : cs[off]? with
          | none => rw [ho] at hat; simp at hat
          | some c =>
            rw [ho] at hat
            simp at hat
            subst hat
            obtain ⟨blk, u, h1, h2, h3, h4, _, _, h6⟩ := cell_box h.boxes hk ho
            obtain ⟨blk', h1', h4'⟩ := hcur
            rw [h1] at h1'; injection h1' with h1'; subst h1'
            rw [h4] at h4'; injection h4' with h4'; subst h4'
            exact .inr ⟨_, sz, h6⟩
        · exact absurd hat (by simp)
    | _ => rw [hc] at hx; simp [rdc] at hx
  | const v =>
    simp only [opv] at hx
    show Val γ ω w m v
    cases hm : mvConst v with
    | none => rw [hm] at hx; simp at hx
    | some m' =>
      rw [hm] at hx; simp at hx; subst hx
      exact .inl (const_rep hm).top
  | func f =>
    simp only [opv] at hx
    injection hx with hx; subst hx
    exact .inl (.fn f [] [] rfl (by simp))
  | global g => simp [opv] at hx

theorem Val.int {γ : List Nat} {ω : Own} {w : World} {k : IntKind} {n : Int} {v : Value} (h : Val γ ω w (.int k n) v) : v = .int k n := by
  rcases h with h | ⟨o, sz, h⟩ <;> cases h; rfl
theorem Val.bool {γ : List Nat} {ω : Own} {w : World} {b : Bool} {v : Value} (h : Val γ ω w (.bool b) v) : v = .bool b := by
  rcases h with h | ⟨o, sz, h⟩ <;> cases h; rfl
theorem Val.str {γ : List Nat} {ω : Own} {w : World} {s : ByteArray} {v : Value} (h : Val γ ω w (.str s) v) : v = .string s := by
  rcases h with h | ⟨o, sz, h⟩ <;> cases h; rfl
theorem Val.agg {γ : List Nat} {ω : Own} {w : World} {cs : List MV} {v : Value} (h : Val γ ω w (.agg cs) v) : Rep γ ω w (.agg cs) v := by
  rcases h with h | ⟨o, sz, h⟩
  · exact h
  · cases h
theorem Val.ptr {γ : List Nat} {ω : Own} {w : World} {b off : Nat} {v : Value} (h : Val γ ω w (.ptr b off) v) : ∃ blk, γ[b]? = some blk ∧ v = .pointer (some ⟨blk, off, none⟩) := by
  rcases h with h | ⟨o, sz, h⟩ <;> cases h; rename_i blk hb; exact ⟨blk, hb, rfl⟩
theorem Val.cptr {γ : List Nat} {ω : Own} {w : World} {cs : List MV} {off : Nat} {v : Value} (h : Val γ ω w (.cptr cs off) v) : Rep γ ω w (.cptr cs off) v := by
  rcases h with h | ⟨o, sz, h⟩
  · exact h
  · cases h

/-- Every slice's value has its list's length. -/
theorem Val.list {γ : List Nat} {ω : Own} {w : World} {es : List (List MV)} {v : Value} (h : Val γ ω w (.list es) v) : ∃ A cap, v = .slice A es.length cap := by
  rcases h with h | ⟨o, sz, h⟩
  · cases h
    · exact ⟨_, _, rfl⟩
    · exact ⟨_, _, rfl⟩
  · cases h with
    | list _ _ e xs hr hc ho =>
      rcases hr.2 with ⟨rfl, h0⟩ | ⟨g, cap, cur, rfl, _⟩
      · exact ⟨none, 0, by rw [h0]⟩
      · exact ⟨_, cap, rfl⟩

end Go.Pv
