/- The library of this work, part A: texts M1 M2 M2b M3 M4 M5 M6 M7 M8 M9. Printed by merge.py. -/
import Derived.Calls
import Derived.Below
import Derived.WalkKit
import Derived.Laws.AppendOwn
import Derived.Laws.MakeOwn
import Derived.Laws.OwnMore
import Derived.KernelRfl
import Derived.Laws.StructEq
import Derived.Laws.Strings
section M1
/- A library of this session: Go's values as pure values, and how they lie in the model's memory. -/
set_option linter.unusedVariables false
set_option linter.unusedSimpArgs false
namespace Go.Pv

/-- Keys of maps. -/
inductive MKey where
  | str (s : ByteArray)
  | int (k : IntKind) (n : Int)
  | bool (b : Bool)
  | strs (l : List ByteArray)
  deriving DecidableEq

def MKey.val : MKey → Value
  | .str s => .string s
  | .int k n => .int k n
  | .bool b => .bool b
  | .strs l => .agg (l.map Value.string).toArray

/-- Pure values. -/
inductive MV where
  | bool (b : Bool)
  | int (k : IntKind) (n : Int)
  | str (s : ByteArray)
  | agg (cs : List MV)
  | tup (vs : List MV)
  | list (es : List (List MV))
  | nil
  | fn (f : FuncId) (cap : List MV)
  | nilfn
  | ptr (b off : Nat)
  | cptr (cs : List MV) (off : Nat)
  | nilptr
  | map (m : List (MKey × MV))
  | ifc (t : TypeId) (v : MV)
  | nilifc
  deriving Inhabited

/-- Who holds a block of the heap. -/
inductive Owner where
  | box (k : Nat)
  | cell (k off : Nat)
  | slot (s : Nat)
  | outer
  | res
  deriving DecidableEq

/-- Places that hold contents. -/
inductive Place where
  | slot (s : Nat)
  | cell (k off : Nat)
  deriving DecidableEq

def Place.owner : Place → Owner
  | .slot s => .slot s
  | .cell k off => .cell k off

/-- Contents of a slot, or of a cell of a box. -/
inductive Ct where
  | sh (v : MV)
  | own (sz : Nat) (v : MV)
  | al (p : Place)
  | eadr (p : Place) (i off : Nat)
  | tupc (cs : List (Option Nat × MV))
  | siter (s : ByteArray) (pos : Nat)
  | dead
  deriving Inhabited

abbrev Own := Nat → Option Owner

section
variable (γ : List Nat) (ω : Own) (w : World)

/-- A value of the model is a pure value; what it leads to is nobody's, and so it stays. -/
inductive Rep : MV → Value → Prop where
  | bool (b : Bool) : Rep (.bool b) (.bool b)
  | int (k : IntKind) (n : Int) : Rep (.int k n) (.int k n)
  | str (s : ByteArray) : Rep (.str s) (.string s)
  | agg (cs : List MV) (vs : List Value) (hl : vs.length = cs.length) (h : ∀ (i : Nat) (c : MV) (v : Value), cs[i]? = some c → vs[i]? = some v → Rep c v)
      (h1 : ∀ v ∈ vs, v.oneCell' = true) : Rep (.agg cs) (.agg vs.toArray)
  | tup (cs : List MV) (vs : List Value) (hl : vs.length = cs.length) (h : ∀ (i : Nat) (c : MV) (v : Value), cs[i]? = some c → vs[i]? = some v → Rep c v) : Rep (.tup cs) (.tuple vs.toArray)
  | list (es : List (List MV)) (sz blk o cap : Nat) (us : Nat → Nat → Value) (hcap : es.length ≤ cap) (hω : ω blk = none) (hlt : blk < w.heap.size)
      (hsz : ∀ e ∈ es, e.length = sz)
      (hc : ∀ (j : Nat) (e : List MV), es[j]? = some e → ∀ (i : Nat) (c : MV), e[i]? = some c → w.cell? ⟨blk, o + (j * sz + i), none⟩ = some (us j i) ∧ (us j i).oneCell' = true)
      (h : ∀ (j : Nat) (e : List MV), es[j]? = some e → ∀ (i : Nat) (c : MV), e[i]? = some c → Rep c (us j i)) :
      Rep (.list es) (.slice (some ⟨blk, o, none⟩) es.length cap)
  | list0 (a : Option Addr) (cap : Nat) : Rep (.list []) (.slice a 0 cap)
  | nil : Rep .nil (.slice none 0 0)
  | fn (f : FuncId) (cs : List MV) (vs : List Value) (hl : vs.length = cs.length) (h : ∀ (i : Nat) (c : MV) (v : Value), cs[i]? = some c → vs[i]? = some v → Rep c v) :
      Rep (.fn f cs) (.func (.func f) #[] vs.toArray)
  | nilfn : Rep .nilfn .nilFunc
  | ptr (b off blk : Nat) (hb : γ[b]? = some blk) : Rep (.ptr b off) (.pointer (some ⟨blk, off, none⟩))
  | cptr (cs : List MV) (off blk o : Nat) (us : Nat → Value) (hω : ω blk = none) (hlt : blk < w.heap.size)
      (hc : ∀ (i : Nat) (c : MV), cs[i]? = some c → w.cell? ⟨blk, o + i, none⟩ = some (us i) ∧ (us i).oneCell' = true)
      (h : ∀ (i : Nat) (c : MV), cs[i]? = some c → Rep c (us i)) : Rep (.cptr cs off) (.pointer (some ⟨blk, o + off, none⟩))
  | nilptr : Rep .nilptr (.pointer none)
  | map (m : List (MKey × MV)) (blk : Nat) (es : List MapEntry) (clock : Nat) (hω : ω blk = none) (hb : w.heap[blk]? = some (.map es.toArray clock)) (hl : es.length = m.length)
      (hk : ∀ (i : Nat) (x : MKey × MV) (e : MapEntry), m[i]? = some x → es[i]? = some e → e.key = x.1.val)
      (hv : ∀ (i : Nat) (x : MKey × MV) (e : MapEntry), m[i]? = some x → es[i]? = some e → Rep x.2 e.val) (hlt : blk < w.heap.size)
      (hbn : ∀ e ∈ es, e.born < clock) (hnd : (es.map (·.born)).Nodup) :
      Rep (.map m) (.map (some blk))
  | map0 : Rep (.map []) (.map none)
  | ifc (t : TypeId) (c : MV) (v : Value) (h : Rep c v) : Rep (.ifc t c) (.iface t v)
  | nilifc : Rep .nilifc .nilIface

/-- The cells of a row. -/
structure Cells (sz : Nat) (es : List (List MV)) (xs : List Value) : Prop where
  len : xs.length = es.length * sz
  wid : ∀ e ∈ es, e.length = sz
  one : ∀ u ∈ xs, u.oneCell' = true
  rep : ∀ (j : Nat) (e : List MV), es[j]? = some e → ∀ (i : Nat) (c : MV), e[i]? = some c → ∃ u, xs[j * sz + i]? = some u ∧ Rep γ ω w c u

/-- The entries of a map. -/
structure Entries (m : List (MKey × MV)) (es : List MapEntry) (clock : Nat) : Prop where
  len : es.length = m.length
  key : ∀ (i : Nat) (x : MKey × MV) (e : MapEntry), m[i]? = some x → es[i]? = some e → e.key = x.1.val
  val : ∀ (i : Nat) (x : MKey × MV) (e : MapEntry), m[i]? = some x → es[i]? = some e → Rep γ ω w x.2 e.val
  born : ∀ e ∈ es, e.born < clock
  nodup : (es.map (·.born)).Nodup

/-- A row, or a map, that one place alone holds. -/
inductive OwnRep (o : Owner) : Nat → MV → Value → Prop where
  | list (sz : Nat) (es : List (List MV)) (v : Value) (e : TypeId) (xs : List Value) (hr : w.ownsRow 0 e sz v es.length xs) (hc : Cells γ ω w sz es xs)
      (ho : ∀ b, v.ownBlock = some b → ω b = some o ∧ b < w.heap.size) : OwnRep o sz (.list es) v
  | map (sz : Nat) (m : List (MKey × MV)) (blk : Nat) (es : List MapEntry) (clock : Nat) (ho : ω blk = some o) (hlt : blk < w.heap.size) (hb : w.heap[blk]? = some (.map es.toArray clock)) (he : Entries γ ω w m es clock) :
      OwnRep o sz (.map m) (.map (some blk))

end

structure St where
  v : List (Nat × Ct)
  B : List (Option (List Ct))

def lk : List (Nat × Ct) → Nat → Ct
  | [], _ => .dead
  | (k, c) :: r, s => if k = s then c else lk r s
def pt : List (Nat × Ct) → Nat → Ct → List (Nat × Ct)
  | [], s, c => [(s, c)]
  | (k, x) :: r, s, c => if k = s then (k, c) :: r else (k, x) :: pt r s c

theorem lk_pt (v : List (Nat × Ct)) (s : Nat) (c : Ct) (t : Nat) : lk (pt v s c) t = if s = t then c else lk v t := by
  induction v with
  | nil => simp [pt, lk]
  | cons x r ih =>
    obtain ⟨k, y⟩ := x
    by_cases h : k = s
    · subst h; simp [pt, lk]; split <;> rfl
    · simp only [pt, h, if_false, lk, ih]
      by_cases h2 : k = t
      · subst h2; simp [Ne.symm h]
      · simp [h2]

/-- What a place holds. -/
def St.at (st : St) : Place → Ct
  | .slot s => lk st.v s
  | .cell k off => match st.B[k]? with
    | some (some cs) => (cs[off]?).getD .dead
    | _ => .dead

/-- The model's value that a place holds. -/
def Place.cur (γ : List Nat) (tmps : Array Value) (w : World) : Place → Value → Prop
  | .slot s, v => tmps.getD s undef = v
  | .cell k off, v => ∃ blk, γ[k]? = some blk ∧ w.cell? ⟨blk, off, none⟩ = some v

section
variable (γ : List Nat) (ω : Own) (w : World)

/-- A content and a value of the model; o: the place's own name. -/
def CtRep (st : St) (tmps : Array Value) (o : Owner) : Ct → Value → Prop
  | .sh m, v => Rep γ ω w m v
  | .own sz m, v => OwnRep γ ω w o sz m v
  | .al p, v => (∃ sz m, st.at p = .own sz m) ∧ p.cur γ tmps w v
  | .eadr p i off, v => ∃ sz es u blk, st.at p = .own sz (.list es) ∧ i < es.length ∧ p.cur γ tmps w u ∧ u.ownBlock = some blk ∧ v = .pointer (some ⟨blk, i * sz + off, none⟩)
  | .tupc cs, v => ∃ vs : List Value, v = .tuple vs.toArray ∧ vs.length = cs.length ∧ ∀ (i : Nat) (c : Option Nat × MV) (u : Value), cs[i]? = some c → vs[i]? = some u →
      match c.1 with | none => Rep γ ω w c.2 u | some sz => OwnRep γ ω w o sz c.2 u
  | .siter s pos, v => ∃ blk, v = .pointer (some ⟨blk, 0, none⟩) ∧ ω blk = some o ∧ blk < w.heap.size ∧ w.heap[blk]? = some (.stringIter s pos)
  | .dead, _ => True

/-- Contents of a box: only what lasts. -/
def BoxCt (k i : Nat) : Ct → Value → Prop
  | .sh m, v => Rep γ ω w m v
  | .own sz m, v => OwnRep γ ω w (.cell k i) sz m v
  | .dead, _ => True
  | _, _ => False

/-- The boxes. -/
structure Boxes (B : List (Option (List Ct))) : Prop where
  len : B.length = γ.length
  box : ∀ (k : Nat) (cs : List Ct), B[k]? = some (some cs) → ∃ blk cur e, γ[k]? = some blk ∧ blk < w.heap.size ∧ ω blk = some (.box k) ∧ w.heap[blk]? = some (.cells cur e (0, 0)) ∧ cur.size = cs.length ∧
    ∀ (i : Nat) (c : Ct), cs[i]? = some c → ∃ u, cur[i]? = some u ∧ u.oneCell' = true ∧ BoxCt γ ω w k i c u

structure Rel (nt : Nat) (st : St) (a : Act) : Prop where
  size : a.tmps.size = nt
  defers : a.defers = []
  lt : ∀ b, w.heap.size ≤ b → ω b = none
  boxes : Boxes γ ω w st.B
  slots : ∀ s, CtRep γ ω w st a.tmps (.slot s) (lk st.v s) (a.tmps.getD s undef)
end

/-- From one moment to a later one; what T names may have changed. -/
structure Chg (T : Owner → Prop) (γ : List Nat) (ω : Own) (w : World) (γ' : List Nat) (ω' : Own) (w' : World) : Prop where
  os : w'.os = w.os
  tape : w'.tape = w.tape
  output : w'.output = w.output
  size : w.heap.size ≤ w'.heap.size
  pre : ∀ (k b : Nat), γ[k]? = some b → γ'[k]? = some b
  none : ∀ b, b < w.heap.size → ω b = none → w'.heap[b]? = w.heap[b]? ∧ ω' b = none
  keep : ∀ b o, b < w.heap.size → ω b = some o → ¬ T o → w'.heap[b]? = w.heap[b]? ∧ ω' b = some o

theorem Chg.refl (T : Owner → Prop) (γ : List Nat) (ω : Own) (w : World) : Chg T γ ω w γ ω w :=
  ⟨rfl, rfl, rfl, Nat.le_refl _, fun _ _ h => h, fun _ _ h => ⟨rfl, h⟩, fun _ _ _ h _ => ⟨rfl, h⟩⟩

theorem Chg.trans {T : Owner → Prop} {γ γ1 γ2 : List Nat} {ω ω1 ω2 : Own} {w w1 w2 : World} (h : Chg T γ ω w γ1 ω1 w1) (h2 : Chg T γ1 ω1 w1 γ2 ω2 w2) : Chg T γ ω w γ2 ω2 w2 :=
  ⟨h2.os.trans h.os, h2.tape.trans h.tape, h2.output.trans h.output, Nat.le_trans h.size h2.size, fun k b hk => h2.pre k b (h.pre k b hk),
   fun b hb h0 => by
    obtain ⟨e1, o1⟩ := h.none b hb h0
    obtain ⟨e2, o2⟩ := h2.none b (Nat.lt_of_lt_of_le hb h.size) o1
    exact ⟨e2.trans e1, o2⟩,
   fun b o hb h0 ht => by
    obtain ⟨e1, o1⟩ := h.keep b o hb h0 ht
    obtain ⟨e2, o2⟩ := h2.keep b o (Nat.lt_of_lt_of_le hb h.size) o1 ht
    exact ⟨e2.trans e1, o2⟩⟩

theorem Chg.mono {T T' : Owner → Prop} {γ γ1 : List Nat} {ω ω1 : Own} {w w1 : World} (h : Chg T γ ω w γ1 ω1 w1) (ht : ∀ o, T o → T' o) : Chg T' γ ω w γ1 ω1 w1 :=
  ⟨h.os, h.tape, h.output, h.size, h.pre, h.none, fun b o hb h0 hn => h.keep b o hb h0 (fun hT => hn (ht o hT))⟩

theorem cell_of_heap {w w' : World} {b : Nat} (h : w'.heap[b]? = w.heap[b]?) (off : Nat) : w'.cell? ⟨b, off, none⟩ = w.cell? ⟨b, off, none⟩ := by simp [World.cell?, h]

/-- What is shared stays. -/
theorem Rep.chg {T : Owner → Prop} {γ γ' : List Nat} {ω ω' : Own} {w w' : World} (hc : Chg T γ ω w γ' ω' w') {m : MV} {v : Value} (h : Rep γ ω w m v) : Rep γ' ω' w' m v := by
  induction h with
  | bool b => exact .bool b
  | int k n => exact .int k n
  | str s => exact .str s
  | agg cs vs hl _ h1 ih => exact .agg cs vs hl ih h1
  | tup cs vs hl _ ih => exact .tup cs vs hl ih
  | list es sz blk o cap us hcap hω hlt hsz hcell _ ih =>
    obtain ⟨e, hω'⟩ := hc.none blk hlt hω
    exact .list es sz blk o cap us hcap hω' (Nat.lt_of_lt_of_le hlt hc.size) hsz (fun j x hj i c hi => by rw [cell_of_heap e]; exact hcell j x hj i c hi) ih
  | list0 a cap => exact .list0 a cap
  | nil => exact .nil
  | fn f cs vs hl _ ih => exact .fn f cs vs hl ih
  | nilfn => exact .nilfn
  | ptr b off blk hb => exact .ptr b off blk (hc.pre b blk hb)
  | cptr cs off blk o us hω hlt hcell _ ih =>
    obtain ⟨e, hω'⟩ := hc.none blk hlt hω
    exact .cptr cs off blk o us hω' (Nat.lt_of_lt_of_le hlt hc.size) (fun i c hi => by rw [cell_of_heap e]; exact hcell i c hi) ih
  | nilptr => exact .nilptr
  | map m blk es clock hω hb hl hk _ hlt hbn hnd ih =>
    obtain ⟨e, hω'⟩ := hc.none blk hlt hω
    exact .map m blk es clock hω' (e.trans hb) hl hk ih (Nat.lt_of_lt_of_le hlt hc.size) hbn hnd
  | map0 => exact .map0
  | ifc t c v _ ih => exact .ifc t c v ih
  | nilifc => exact .nilifc

theorem Cells.chg {T : Owner → Prop} {γ γ' : List Nat} {ω ω' : Own} {w w' : World} (hc : Chg T γ ω w γ' ω' w') {sz : Nat} {es : List (List MV)} {xs : List Value} (h : Cells γ ω w sz es xs) : Cells γ' ω' w' sz es xs :=
  ⟨h.len, h.wid, h.one, fun j e hj i c hi => by obtain ⟨u, hu, hr⟩ := h.rep j e hj i c hi; exact ⟨u, hu, hr.chg hc⟩⟩
theorem Entries.chg {T : Owner → Prop} {γ γ' : List Nat} {ω ω' : Own} {w w' : World} (hc : Chg T γ ω w γ' ω' w') {m : List (MKey × MV)} {es : List MapEntry} {clock : Nat} (h : Entries γ ω w m es clock) : Entries γ' ω' w' m es clock :=
  ⟨h.len, h.key, fun i x e hx he => (h.val i x e hx he).chg hc, h.born, h.nodup⟩

theorem ownsRow_heap {w w' : World} {e : TypeId} {sz n : Nat} {v : Value} {xs : List Value} (h : w.ownsRow 0 e sz v n xs) (hb : ∀ b, v.ownBlock = some b → w'.heap[b]? = w.heap[b]?) : w'.ownsRow 0 e sz v n xs := by
  obtain ⟨h1, h2⟩ := h
  refine ⟨h1, ?_⟩
  rcases h2 with h2 | ⟨g, cap, cur, rfl, hg, hh, r⟩
  · exact .inl h2
  · exact .inr ⟨g, cap, cur, rfl, hg, (hb g (by simp [Value.ownBlock])).trans hh, r⟩

/-- What one place holds stays, where others change. -/
theorem OwnRep.chg {T : Owner → Prop} {γ γ' : List Nat} {ω ω' : Own} {w w' : World} (hc : Chg T γ ω w γ' ω' w') {o : Owner} (ht : ¬ T o) {sz : Nat} {m : MV} {v : Value} (h : OwnRep γ ω w o sz m v) : OwnRep γ' ω' w' o sz m v := by
  cases h with
  | list es _ e xs hr hcl ho =>
    refine .list sz es v e xs (ownsRow_heap hr fun b hb => (hc.keep b o (ho b hb).2 (ho b hb).1 ht).1) (hcl.chg hc) fun b hb => ⟨(hc.keep b o (ho b hb).2 (ho b hb).1 ht).2, Nat.lt_of_lt_of_le (ho b hb).2 hc.size⟩
  | map m blk es clock ho hlt hb he =>
    obtain ⟨e, o'⟩ := hc.keep blk o hlt ho ht
    exact .map sz m blk es clock o' (Nat.lt_of_lt_of_le hlt hc.size) (e.trans hb) (he.chg hc)

theorem BoxCt.chg {T : Owner → Prop} {γ γ' : List Nat} {ω ω' : Own} {w w' : World} (hc : Chg T γ ω w γ' ω' w') {k i : Nat} (ht : ¬ T (.cell k i)) {c : Ct} {v : Value} (h : BoxCt γ ω w k i c v) : BoxCt γ' ω' w' k i c v := by
  cases c <;> simp only [BoxCt] at h ⊢ <;> first | exact h.chg hc | exact h.chg hc ht | exact h

theorem Boxes.chg {T : Owner → Prop} {γ γ' : List Nat} {ω ω' : Own} {w w' : World} (hc : Chg T γ ω w γ' ω' w') (hγ : γ'.length = γ.length) (ht : ∀ k, ¬ T (.box k)) (ht2 : ∀ k i, ¬ T (.cell k i)) {B : List (Option (List Ct))} (h : Boxes γ ω w B) : Boxes γ' ω' w' B :=
  ⟨h.len.trans hγ.symm, fun k cs hk => by
    obtain ⟨blk, cur, e, h1, h2, h3, h4, h5, h6⟩ := h.box k cs hk
    obtain ⟨e1, o1⟩ := hc.keep blk _ h2 h3 (ht k)
    exact ⟨blk, cur, e, hc.pre k blk h1, Nat.lt_of_lt_of_le h2 hc.size, o1, e1.trans h4, h5, fun i c hi => by
      obtain ⟨u, hu, h1c, hb⟩ := h6 i c hi
      exact ⟨u, hu, h1c, hb.chg hc (ht2 k i)⟩⟩⟩

end Go.Pv

end M1
section M2
/- A library of this session: types, operands, and the operations that only compute. -/
set_option linter.unusedVariables false
set_option linter.unusedSimpArgs false
namespace Go.Pv

/-! ### Types -/
inductive TK where
  | bool | int (k : IntKind) | str | slice (e : TypeId) | strct (fs : List (Nat × TypeId)) | arr (n : Nat) (e : TypeId) | map (k e : TypeId) | ptr (e : TypeId) | func | iface | other
  deriving DecidableEq

structure TI where
  kd : TK
  size : Nat
  bytes : Nat
  zero : List MV

def mvZero : Value → Option MV
  | .bool b => some (.bool b)
  | .int k n => some (.int k n)
  | .string s => some (.str s)
  | .pointer none => some .nilptr
  | .slice none 0 0 => some .nil
  | .map none => some (.map [])
  | .nilFunc => some .nilfn
  | .nilIface => some .nilifc
  | _ => none

def tkOf : TypeDesc → TK
  | .bool => .bool
  | .int k => .int k
  | .string => .str
  | .slice e => .slice e
  | .struct fs => .strct (fs.toList.map fun f => (f.offset, f.type))
  | .array n e => .arr n e
  | .map k e => .map k e
  | .pointer e => .ptr e
  | .func .. => .func
  | .interface _ => .iface
  | _ => .other

def zerosOf : List Value → Option (List MV)
  | [] => some []
  | v :: r => match mvZero v, zerosOf r with
    | some m, some l => some (m :: l)
    | _, _ => none

def aggKd : TK → Bool
  | .strct _ | .arr _ _ => true
  | _ => false

def isAggV : Value → Bool
  | .agg _ => true
  | _ => false

def tiOf (P : Program) (T : TypeId) : Option TI :=
  match P.info? T, P.underlying T with
  | some i, some d => match i.zero with
    | some z => match zerosOf z.cells.toList with
      | some l => if l.length = i.size ∧ isAggV z = aggKd (tkOf d) then some ⟨tkOf d, i.size, i.bytes, l⟩ else none
      | none => none
    | none => none
  | _, _ => none

theorem mvZero_rep {γ : List Nat} {ω : Own} {w : World} {v : Value} {m : MV} (h : mvZero v = some m) : Rep γ ω w m v ∧ v.oneCell' = true := by
  unfold mvZero at h
  split at h <;> first | (injection h with h; subst h; refine ⟨?_, rfl⟩; first | exact .bool _ | exact .int _ _ | exact .str _ | exact .nilptr | exact .nil | exact .map0 | exact .nilfn | exact .nilifc) | exact absurd h (by simp)

theorem zerosOf_rep {γ : List Nat} {ω : Own} {w : World} : ∀ {vs : List Value} {l : List MV}, zerosOf vs = some l → vs.length = l.length ∧ (∀ v ∈ vs, v.oneCell' = true) ∧ ∀ (i : Nat) (c : MV) (v : Value), l[i]? = some c → vs[i]? = some v → Rep γ ω w c v
  | [], l, h => by
    simp [zerosOf] at h; subst h; simp
  | v :: r, l, h => by
    unfold zerosOf at h
    split at h
    · rename_i m l' hm hl
      injection h with h; subst h
      obtain ⟨h1, h2, h3⟩ := zerosOf_rep (γ := γ) (ω := ω) (w := w) hl
      obtain ⟨hr, ho⟩ := mvZero_rep (γ := γ) (ω := ω) (w := w) hm
      refine ⟨by simp [h1], by simpa using ⟨ho, h2⟩, fun i c u hc hu => ?_⟩
      cases i with
      | zero => simp at hc hu; subst hc; subst hu; exact hr
      | succ i => exact h3 i c u (by simpa using hc) (by simpa using hu)
    · exact absurd h (by simp)

structure Ty (P : Program) (T : TypeId) (ti : TI) : Prop where
  info : ∃ i z, P.info? T = some i ∧ i.size = ti.size ∧ i.bytes = ti.bytes ∧ i.zero = some z ∧ zerosOf z.cells.toList = some ti.zero ∧ ti.zero.length = ti.size ∧ isAggV z = aggKd ti.kd
  und : ∃ d, P.underlying T = some d ∧ tkOf d = ti.kd

theorem ty_of {P : Program} {T : TypeId} {ti : TI} (h : tiOf P T = some ti) : Ty P T ti := by
  unfold tiOf at h
  split at h
  · rename_i i d hi hd
    split at h
    · rename_i z hz
      split at h
      · rename_i l hl
        split at h
        · rename_i hc
          injection h with h
          subst h
          exact ⟨⟨i, z, hi, rfl, rfl, hz, hl, hc.1, hc.2⟩, ⟨d, hd, rfl⟩⟩
        · exact absurd h (by simp)
      · exact absurd h (by simp)
    · exact absurd h (by simp)
  · exact absurd h (by simp)

/-! ### Contents by name; a slot that is written -/
def Ct.refs (p : Place) : Ct → Bool
  | .al q => q == p
  | .eadr q _ _ => q == p
  | _ => false

def killS (p : Place) (v : List (Nat × Ct)) : List (Nat × Ct) := v.map fun x => (x.1, if x.2.refs p then .dead else x.2)

theorem lk_killS (p : Place) (v : List (Nat × Ct)) (s : Nat) : lk (killS p v) s = if (lk v s).refs p then .dead else lk v s := by
  induction v with
  | nil => simp [killS, lk, Ct.refs]
  | cons x r ih =>
    obtain ⟨k, c⟩ := x
    by_cases h : k = s
    · simp [killS, lk, h]
    · simp only [killS, List.map_cons, lk, h, if_false]
      exact ih

/-- A slot is written. -/
def St.put (st : St) (d : Nat) (c : Ct) : St :=
  { st with v := pt (match lk st.v d with | .own _ _ => killS (.slot d) st.v | _ => st.v) d (if c.refs (.slot d) then .dead else c) }

def putO (st : St) : Option Tmp → Ct → St
  | some d, c => st.put d c
  | none, _ => st

theorem at_killS_own {st : St} {p q : Place} {v : List (Nat × Ct)} (hv : v = killS q st.v) {sz : Nat} {m : MV} (h : st.at p = .own sz m) : ({ st with v := v } : St).at p = .own sz m := by
  subst hv
  cases p with
  | slot s =>
    simp only [St.at] at h ⊢
    rw [lk_killS, h]; simp [Ct.refs]
  | cell k off => exact h

/-- Contents that name no changed place. -/
theorem CtRep.mv {γ : List Nat} {ω : Own} {w : World} {st st' : St} {tmps tmps' : Array Value} {o : Owner} {c : Ct} {v : Value} (h : CtRep γ ω w st tmps o c v)
    (hst : ∀ (p : Place) (sz : Nat) (m : MV), c.refs p = true → st.at p = .own sz m → st'.at p = .own sz m)
    (hcur : ∀ (p : Place) (u : Value), c.refs p = true → p.cur γ tmps w u → p.cur γ tmps' w u) : CtRep γ ω w st' tmps' o c v := by
  cases c with
  | al p =>
    obtain ⟨⟨sz, m, h1⟩, h2⟩ := h
    exact ⟨⟨sz, m, hst p sz m (by simp [Ct.refs]) h1⟩, hcur p v (by simp [Ct.refs]) h2⟩
  | eadr p i off =>
    obtain ⟨sz, es, u, blk, h1, h2, h3, h4, h5⟩ := h
    exact ⟨sz, es, u, blk, hst p sz _ (by simp [Ct.refs]) h1, h2, hcur p u (by simp [Ct.refs]) h3, h4, h5⟩
  | sh m => exact h
  | own sz m => exact h
  | tupc cs => exact h
  | siter s pos => exact h
  | dead => trivial

theorem getD_set {tmps : Array Value} {d s : Nat} {v : Value} (hd : d < tmps.size) : (tmps.setIfInBounds d v).getD s undef = if d = s then v else tmps.getD s undef := by
  simp only [Array.getD_eq_getD_getElem?, Array.getElem?_setIfInBounds, hd]
  by_cases h : d = s
  · simp [h]
  · simp [h]

theorem Rel.put {γ : List Nat} {ω : Own} {w : World} {nt : Nat} {st : St} {a : Act} (h : Rel γ ω w nt st a) {d : Nat} (hd : d < nt) {c : Ct} {v : Value} (hc : CtRep γ ω w st a.tmps (.slot d) c v) :
    Rel γ ω w nt (st.put d c) (a.put (some d) v) := by
  have hsz := h.size
  have key : ∀ (p : Place) (sz : Nat) (m : MV), p ≠ .slot d → st.at p = .own sz m → (st.put d c).at p = .own sz m := by
    intro p sz m hp hat
    cases p with
    | slot s =>
      have hs : d ≠ s := fun e => hp (by rw [e])
      simp only [St.at, St.put, lk_pt, hs, if_false] at hat ⊢
      split
      · rw [lk_killS, hat]; simp [Ct.refs]
      · exact hat
    | cell k off => exact hat
  have kcur : ∀ (p : Place) (u : Value), p ≠ .slot d → p.cur γ a.tmps w u → p.cur γ (a.put (some d) v).tmps w u := by
    intro p u hp hu
    cases p with
    | slot s =>
      have hs : d ≠ s := fun e => hp (by rw [e])
      simp only [Place.cur, Act.put] at hu ⊢
      rw [getD_set (by omega), if_neg hs]; exact hu
    | cell k off => exact hu
  refine ⟨by simp [Act.put, hsz], h.defers, h.lt, h.boxes, fun s => ?_⟩
  have e1 : (a.put (some d) v).tmps.getD s undef = if d = s then v else a.tmps.getD s undef := by simp only [Act.put]; exact getD_set (by omega)
  rw [e1]
  show CtRep γ ω w (st.put d c) (a.put (some d) v).tmps (.slot s) (lk (pt _ d _) s) _
  rw [lk_pt]
  by_cases hs : d = s
  · subst hs
    simp only [if_true]
    by_cases hr : c.refs (.slot d) = true
    · rw [if_pos hr]; trivial
    · rw [if_neg hr]
      refine hc.mv (fun p sz m hp => key p sz m ?_) (fun p u hp => kcur p u ?_)
      · intro e; subst e; exact hr hp
      · intro e; subst e; exact hr hp
  · simp only [hs, if_false]
    have hold := h.slots s
    split
    · rename_i sz0 m0 hown
      rw [lk_killS]
      by_cases hr : (lk st.v s).refs (.slot d) = true
      · rw [if_pos hr]; trivial
      · rw [if_neg hr]
        refine hold.mv (fun p sz m hp => key p sz m ?_) (fun p u hp => kcur p u ?_)
        · intro e; subst e; exact hr hp
        · intro e; subst e; exact hr hp
    · rename_i hno
      have hr : ∀ p, (lk st.v s).refs p = true → p ≠ .slot d := by
        intro p hp e
        subst e
        cases hcs : lk st.v s with
        | al q =>
          rw [hcs] at hold hp
          simp [Ct.refs] at hp
          subst hp
          obtain ⟨⟨sz, m, h1⟩, _⟩ := hold
          exact hno sz m h1
        | eadr q i off =>
          rw [hcs] at hold hp
          simp [Ct.refs] at hp
          subst hp
          obtain ⟨sz, es, u, blk, h1, _⟩ := hold
          exact hno sz _ h1
        | _ => rw [hcs] at hp; simp [Ct.refs] at hp
      exact hold.mv (fun p sz m hp => key p sz m (hr p hp)) (fun p u hp => kcur p u (hr p hp))

theorem Rel.putO {γ : List Nat} {ω : Own} {w : World} {nt : Nat} {st : St} {a : Act} (h : Rel γ ω w nt st a) {d : Option Tmp} (hd : ∀ t, d = some t → t < nt) {c : Ct} {v : Value} (hc : ∀ t, d = some t → CtRep γ ω w st a.tmps (.slot t) c v) :
    Rel γ ω w nt (putO st d c) (a.put d v) := by
  cases d with
  | none => exact h
  | some t => exact h.put (hd t rfl) (hc t rfl)

/-! ### What an operand says -/
def mvConst : Value → Option MV
  | .agg cs => (zerosOf cs.toList).map .agg
  | v => mvZero v

/-- A nil slice, read as a list. -/
def MV.top : MV → MV
  | .nil => .list []
  | m => m

theorem Rep.top {γ : List Nat} {ω : Own} {w : World} {m : MV} {v : Value} (h : Rep γ ω w m v) : Rep γ ω w m.top v := by
  cases m <;> first | exact h | (cases h; exact .list0 _ _)

def rdc (st : St) : Ct → Option MV
  | .sh m => some m.top
  | .own _ m => some m
  | .al p => match st.at p with
    | .own _ m => some m
    | _ => none
  | _ => none

def opv (st : St) : Operand → Option MV
  | .tmp t => rdc st (lk st.v t)
  | .const v => (mvConst v).map MV.top
  | .func f => some (.fn f [])
  | .global _ => none

theorem const_rep {γ : List Nat} {ω : Own} {w : World} {v : Value} {m : MV} (h : mvConst v = some m) : Rep γ ω w m v := by
  unfold mvConst at h
  split at h
  · rename_i cs
    cases hz : zerosOf cs.toList with
    | none => rw [hz] at h; simp at h
    | some l =>
      rw [hz] at h; simp at h; subst h
      obtain ⟨h1, h2, h3⟩ := zerosOf_rep (γ := γ) (ω := ω) (w := w) hz
      have := Rep.agg l cs.toList h1 h3 h2
      simpa using this
  · exact (mvZero_rep h).1

/-- A value that is shared, or held somewhere. -/
def Val (γ : List Nat) (ω : Own) (w : World) (m : MV) (v : Value) : Prop := Rep γ ω w m v ∨ ∃ o sz, OwnRep γ ω w o sz m v

theorem cell_box {γ : List Nat} {ω : Own} {w : World} {B : List (Option (List Ct))} (h : Boxes γ ω w B) {k off : Nat} {cs : List Ct} {c : Ct} (hk : B[k]? = some (some cs)) (hc : cs[off]? = some c) :
    ∃ blk u, γ[k]? = some blk ∧ blk < w.heap.size ∧ ω blk = some (.box k) ∧ w.cell? ⟨blk, off, none⟩ = some u ∧ w.frozen? ⟨blk, off, none⟩ = false ∧ u.oneCell' = true ∧ BoxCt γ ω w k off c u := by
  obtain ⟨blk, cur, e, h1, h2, h3, h4, h5, h6⟩ := h.box k cs hk
  obtain ⟨u, hu, ho, hb⟩ := h6 off c hc
  exact ⟨blk, u, h1, h2, h3, by simp [World.cell?, h4, hu], by simp [World.frozen?, h4], ho, hb⟩

theorem Rel.val {γ : List Nat} {ω : Own} {w : World} {nt : Nat} {st : St} {a : Act} (h : Rel γ ω w nt st a) {x : Operand} {m : MV} (hx : opv st x = some m) : Val γ ω w m (a.eval x) := by
  cases x with
  | tmp t =>
    have hs := h.slots t
    simp only [opv] at hx
    show Val γ ω w m (a.tmps.getD t undef)
    generalize a.tmps.getD t undef = v at hs ⊢
    cases hc : lk st.v t with
    | sh m' => rw [hc] at hx hs; injection hx with hx; subst hx; exact .inl (Rep.top hs)
    | own sz m' => rw [hc] at hx hs; injection hx with hx; subst hx; exact .inr ⟨_, sz, hs⟩
    | al p =>
      rw [hc] at hx hs
      obtain ⟨⟨sz, m', hat⟩, hcur⟩ := hs
      simp only [rdc, hat] at hx
      injection hx with hx; subst hx
      cases p with
      | slot s =>
        have := h.slots s
        simp only [St.at] at hat
        rw [hat] at this
        simp only [Place.cur] at hcur
        rw [hcur] at this
        exact .inr ⟨_, sz, this⟩
      | cell k off =>
        simp only [St.at] at hat
        split at hat
        · rename_i cs hk
          cases ho : cs[off]? with
          | none => rw [ho] at hat; simp at hat
          | some c =>
            rw [ho] at hat
            simp at hat
            subst hat
            obtain ⟨blk, u, h1, h2, h3, h4, _, _, h6⟩ := cell_box h.boxes hk ho
            obtain ⟨blk', h1', h4'⟩ := hcur
            rw [h1] at h1'; injection h1' with h1'; subst h1'
            rw [h4] at h4'; injection h4' with h4'; subst h4'
            exact .inr ⟨_, sz, h6⟩
        · exact absurd hat (by simp)
    | _ => rw [hc] at hx; simp [rdc] at hx
  | const v =>
    simp only [opv] at hx
    show Val γ ω w m v
    cases hm : mvConst v with
    | none => rw [hm] at hx; simp at hx
    | some m' =>
      rw [hm] at hx; simp at hx; subst hx
      exact .inl (const_rep hm).top
  | func f =>
    simp only [opv] at hx
    injection hx with hx; subst hx
    exact .inl (.fn f [] [] rfl (by simp))
  | global g => simp [opv] at hx

theorem Val.int {γ : List Nat} {ω : Own} {w : World} {k : IntKind} {n : Int} {v : Value} (h : Val γ ω w (.int k n) v) : v = .int k n := by
  rcases h with h | ⟨o, sz, h⟩ <;> cases h; rfl
theorem Val.bool {γ : List Nat} {ω : Own} {w : World} {b : Bool} {v : Value} (h : Val γ ω w (.bool b) v) : v = .bool b := by
  rcases h with h | ⟨o, sz, h⟩ <;> cases h; rfl
theorem Val.str {γ : List Nat} {ω : Own} {w : World} {s : ByteArray} {v : Value} (h : Val γ ω w (.str s) v) : v = .string s := by
  rcases h with h | ⟨o, sz, h⟩ <;> cases h; rfl
theorem Val.agg {γ : List Nat} {ω : Own} {w : World} {cs : List MV} {v : Value} (h : Val γ ω w (.agg cs) v) : Rep γ ω w (.agg cs) v := by
  rcases h with h | ⟨o, sz, h⟩
  · exact h
  · cases h
theorem Val.ptr {γ : List Nat} {ω : Own} {w : World} {b off : Nat} {v : Value} (h : Val γ ω w (.ptr b off) v) : ∃ blk, γ[b]? = some blk ∧ v = .pointer (some ⟨blk, off, none⟩) := by
  rcases h with h | ⟨o, sz, h⟩ <;> cases h; rename_i blk hb; exact ⟨blk, hb, rfl⟩
theorem Val.cptr {γ : List Nat} {ω : Own} {w : World} {cs : List MV} {off : Nat} {v : Value} (h : Val γ ω w (.cptr cs off) v) : Rep γ ω w (.cptr cs off) v := by
  rcases h with h | ⟨o, sz, h⟩
  · exact h
  · cases h

/-- Every slice's value has its list's length. -/
theorem Val.list {γ : List Nat} {ω : Own} {w : World} {es : List (List MV)} {v : Value} (h : Val γ ω w (.list es) v) : ∃ A cap, v = .slice A es.length cap := by
  rcases h with h | ⟨o, sz, h⟩
  · cases h
    · exact ⟨_, _, rfl⟩
    · exact ⟨_, _, rfl⟩
  · cases h with
    | list _ _ e xs hr hc ho =>
      rcases hr.2 with ⟨rfl, h0⟩ | ⟨g, cap, cur, rfl, _⟩
      · exact ⟨none, 0, by rw [h0]⟩
      · exact ⟨_, cap, rfl⟩

end Go.Pv

end M2
section M2b
/- A library of this session: structs are compared. -/
set_option linter.unusedVariables false
set_option linter.unusedSimpArgs false
namespace Go.Pv

def leaves (f : TypeId → Option (List TK)) (P : Program) : List Field → Nat → Option (List TK)
  | [], _ => some []
  | x :: r, o => if x.name = "_" ∨ x.offset ≠ o then none else match f x.type, tiOf P x.type with
    | some n, some ti => if ti.size = n.length then (match leaves f P r (o + n.length) with
        | some m => some (n ++ m)
        | none => none) else none
    | _, _ => none

/-- The cells of a type, all of which can be compared one by one. -/
def eqLeaf (P : Program) : Nat → TypeId → Option (List TK)
  | 0, _ => none
  | d + 1, T => match P.underlying T with
    | some .bool => some [.bool]
    | some (.int k) => some [.int k]
    | some .string => some [.str]
    | some (.struct fs) => if P.stoodInHeld T = true then none else leaves (eqLeaf P d) P fs.toList 0
    | _ => none

/-- The cells of a type that is compared cell by cell. -/
def eqTy (P : Program) (T : TypeId) : Option (List TK) := if P.eqGuardType P.depth T = true then none else match tiOf P T, eqLeaf P 20 T with
  | some ti, some l => if aggKd ti.kd = true ∧ ti.size = l.length then some l else none
  | _, _ => none

def eq1 : TK → MV → MV → Option Bool
  | .bool, .bool a, .bool b => some (a == b)
  | .int _, .int k a, .int k' b => if k = k' then some (decide (a = b)) else none
  | .str, .str a, .str b => some (decide (a = b))
  | _, _, _ => none

def eqCells : List TK → List MV → List MV → Option Bool
  | [], [], [] => some true
  | t :: q, x :: r, y :: s => match eq1 t x y, eqCells q r s with
    | some a, some b => some (a && b)
    | _, _ => none
  | _, _, _ => none

theorem eqCells_len : ∀ {ts : List TK} {xs ys : List MV} {b : Bool}, eqCells ts xs ys = some b → xs.length = ts.length ∧ ys.length = ts.length
  | [], [], [], b, h => by simp
  | [], [], _ :: _, b, h => by simp [eqCells] at h
  | [], _ :: _, _, b, h => by simp [eqCells] at h
  | _ :: _, [], _, b, h => by simp [eqCells] at h
  | _ :: _, _ :: _, [], b, h => by simp [eqCells] at h
  | t :: q, x :: r, y :: s, b, h => by
    simp only [eqCells] at h
    cases h2 : eqCells q r s with
    | none => rw [h2] at h; cases eq1 t x y <;> simp at h
    | some c => have := eqCells_len h2; simp; exact this

theorem eqCells_split : ∀ (ts us : List TK) (xs ys : List MV) (b : Bool), eqCells (ts ++ us) xs ys = some b → ∃ b1 b2, eqCells ts (xs.take ts.length) (ys.take ts.length) = some b1 ∧ eqCells us (xs.drop ts.length) (ys.drop ts.length) = some b2 ∧ b = (b1 && b2)
  | [], us, xs, ys, b, h => ⟨true, b, by simp [eqCells], by simpa using h, by simp⟩
  | t :: q, us, [], ys, b, h => by simp [eqCells] at h
  | t :: q, us, x :: r, [], b, h => by simp [eqCells] at h
  | t :: q, us, x :: r, y :: s, b, h => by
    simp only [List.cons_append, eqCells] at h
    cases h1 : eq1 t x y with
    | none => rw [h1] at h; simp at h
    | some a =>
      cases h2 : eqCells (q ++ us) r s with
      | none => rw [h1, h2] at h; simp at h
      | some c =>
        rw [h1, h2] at h
        simp only [Option.some.injEq] at h
        obtain ⟨b1, b2, e1, e2, e3⟩ := eqCells_split q us r s c h2
        refine ⟨a && b1, b2, ?_, e2, ?_⟩
        · simp only [List.length_cons, List.take_succ_cons, eqCells, h1, e1]
        · rw [← h, e3, Bool.and_assoc]

section
variable {P : Program} {γ : List Nat} {ω : Own} {w : World}

theorem bytes_eq0 (a b : ByteArray) : (a.toList == b.toList) = decide (a = b) := by
  rw [← beq_toListBytes]
  by_cases h : a = b
  · subst h; rw [beq_toListBytes]; simp
  · rw [decide_eq_false h]
    have : ¬ (a == b) = true := by
      rw [beq_toListBytes]
      simp only [beq_iff_eq]
      intro e
      rw [ByteArray.toList_eq, ByteArray.toList_eq] at e
      apply h
      obtain ⟨⟨x⟩⟩ := a
      obtain ⟨⟨y⟩⟩ := b
      simp at e
      rw [e]
    simpa using this

theorem isAgg_run {T : TypeId} {ti : TI} (h : Ty P T ti) : (isAgg T).run P w = .ok (aggKd ti.kd) w := by
  obtain ⟨d, hd, hk⟩ := h.und
  unfold isAgg
  simp only [Sem.run_bind, run_underlying hd, Result.andThen_ok]
  rw [← hk]
  cases d <;> rfl

theorem size_run {T : TypeId} {ti : TI} (h : Ty P T ti) : (sizeOf T).run P w = .ok ti.size w := by
  obtain ⟨i, z, h1, h2, _⟩ := h.info
  simp [sizeOf, typeInfo, h1, h2]

/-- A part of a struct. -/
theorem part_run {T : TypeId} {ti : TI} (h : Ty P T ti) (us : List Value) (o : Nat) (hl : o + ti.size ≤ us.length) (h1 : aggKd ti.kd = false → ti.size = 1) :
    (part T us.toArray o).run P w = .ok (if aggKd ti.kd = true then .agg ((us.drop o).take ti.size).toArray else ((us.drop o).take ti.size).getD 0 undef) w := by
  unfold part
  simp only [Sem.run_bind, isAgg_run h, Result.andThen_ok]
  cases hk : aggKd ti.kd with
  | true =>
    simp only [if_true, Sem.run_bind, size_run h, Result.andThen_ok, Sem.run_pure]
    congr 2
    simp [List.extract_eq_take_drop]
  | false =>
    have h2 := h1 hk
    have hlt : o < us.length := by omega
    simp [h2, hlt, List.getElem?_take]

/-- What two values of a type that is compared cell by cell come to. -/
def EqAt (P : Program) (d T : Nat) (ts : List TK) : Prop := ∀ (γ : List Nat) (ω : Own) (w : World) (xs ys : List MV) (us vs : List Value) (b : Bool), us.length = ts.length → vs.length = ts.length →
  (∀ (i : Nat) (c : MV) (v : Value), xs[i]? = some c → us[i]? = some v → Rep γ ω w c v) → (∀ (i : Nat) (c : MV) (v : Value), ys[i]? = some c → vs[i]? = some v → Rep γ ω w c v) → eqCells ts xs ys = some b →
  ∀ ti, tiOf P T = some ti → ti.size = ts.length → (Op.equalIn d T (if aggKd ti.kd = true then .agg us.toArray else us.getD 0 undef) (if aggKd ti.kd = true then .agg vs.toArray else vs.getD 0 undef)).run P w = .ok b w

theorem eqFields_run (D d : Nat) (ih : ∀ T ts, eqLeaf P d T = some ts → EqAt P (d + D) T ts ∧ (∀ ti, tiOf P T = some ti → aggKd ti.kd = false → ts.length = 1)) : ∀ (fs : List Field) (o : Nat) (ts : List TK), leaves (eqLeaf P d) P fs o = some ts → ∀ (xs ys : List MV) (us vs : List Value) (b : Bool), us.length = o + ts.length → vs.length = o + ts.length →
  (∀ (i : Nat) (c : MV) (v : Value), xs[i]? = some c → us[i]? = some v → Rep γ ω w c v) → (∀ (i : Nat) (c : MV) (v : Value), ys[i]? = some c → vs[i]? = some v → Rep γ ω w c v) → eqCells ts (xs.drop o) (ys.drop o) = some b →
  (Op.eqFields (d + D) us.toArray vs.toArray fs).run P w = .ok b w
  | [], o, ts, h, xs, ys, us, vs, b, h1, h2, hx, hy, hb => by
    simp only [leaves, Option.some.injEq] at h
    subst h
    have hl := eqCells_len hb
    have e1 : xs.drop o = [] := List.eq_nil_of_length_eq_zero (by simpa using hl.1)
    have e2 : ys.drop o = [] := List.eq_nil_of_length_eq_zero (by simpa using hl.2)
    rw [e1, e2] at hb
    simp only [eqCells, Option.some.injEq] at hb
    subst hb
    simp [Op.eqFields]
  | f :: r, o, ts, h, xs, ys, us, vs, b, h1, h2, hx, hy, hb => by
    unfold leaves at h
    split at h
    · exact absurd h (by simp)
    · rename_i hc
      have hname : f.name ≠ "_" := fun e => hc (.inl e)
      have hoff : f.offset = o := Classical.byContradiction fun e => hc (.inr e)
      split at h
      · rename_i m ti hm hti
        split at h
        · rename_i hsz
          split at h
          · rename_i q hq
            injection h with h; subst h
            obtain ⟨g1, g2⟩ := ih _ _ hm
            have hT := ty_of hti
            rw [List.length_append] at h1 h2
            obtain ⟨b1, b2, e1, e2, e3⟩ := eqCells_split m q _ _ b hb
            have hus : ((us.drop o).take m.length).length = m.length := by simp; omega
            have hvs : ((vs.drop o).take m.length).length = m.length := by simp; omega
            have sub : ∀ {xs : List MV} {us : List Value}, (∀ (i : Nat) (c : MV) (v : Value), xs[i]? = some c → us[i]? = some v → Rep γ ω w c v) → ∀ (i : Nat) (c : MV) (v : Value), ((xs.drop o).take m.length)[i]? = some c → ((us.drop o).take m.length)[i]? = some v → Rep γ ω w c v := by
              intro xs us hx i c v hc hv
              rw [List.getElem?_take] at hc hv
              split at hc
              · rename_i hi
                rw [if_pos hi] at hv
                rw [List.getElem?_drop] at hc hv
                exact hx _ _ _ hc hv
              · exact absurd hc (by simp)
            have hrun := g1 γ ω w _ _ _ _ b1 hus hvs (sub hx) (sub hy) e1 ti hti hsz
            have p1 := part_run (P := P) (w := w) hT us o (by omega) (fun hk => by rw [hsz]; exact g2 ti hti hk)
            have p2 := part_run (P := P) (w := w) hT vs o (by omega) (fun hk => by rw [hsz]; exact g2 ti hti hk)
            rw [hsz] at p1 p2
            simp only [Op.eqFields, ne_eq, hname, not_false_eq_true, if_true, Sem.run_bind, hoff, p1, p2, Result.andThen_ok, hrun, Sem.run_ite, Sem.run_pure]
            rw [List.drop_drop, List.drop_drop] at e2
            have hrest := eqFields_run D d ih r (o + m.length) q hq xs ys us vs b2 (by omega) (by omega) hx hy e2
            cases b1 with
            | false => simp [e3]
            | true => simp only [Bool.not_true, Bool.false_eq_true, if_false, e3, Bool.true_and]; exact hrest
          · exact absurd h (by simp)
        · exact absurd h (by simp)
      · exact absurd h (by simp)

theorem eqLeaf_run (D : Nat) : ∀ (d : Nat) (T : Nat) (ts : List TK), eqLeaf P d T = some ts → EqAt P (d + D) T ts ∧ (∀ ti, tiOf P T = some ti → aggKd ti.kd = false → ts.length = 1)
  | 0, T, n, h => by simp [eqLeaf] at h
  | d + 1, T, ts, h => by
    unfold eqLeaf at h
    have plain : ∀ {dd : TypeDesc} {t : TK}, P.underlying T = some dd → aggKd (tkOf dd) = false → ts = [t] → (∀ (m1 m2 : MV) (u v : Value) (γ : List Nat) (ω : Own) (w : World) (b : Bool), Rep γ ω w m1 u → Rep γ ω w m2 v → eq1 t m1 m2 = some b → (Op.equalIn (d + D + 1) T u v).run P w = .ok b w) →
        EqAt P (d + 1 + D) T ts ∧ (∀ ti, tiOf P T = some ti → aggKd ti.kd = false → ts.length = 1) := by
      intro dd t hd hk hn hrun
      subst hn
      refine ⟨fun γ ω w xs ys us vs b h1 h2 hx hy hb ti hti hsz => ?_, fun _ _ _ => rfl⟩
      obtain ⟨d2, hd2, hkd⟩ := (ty_of hti).und
      rw [hd] at hd2; injection hd2 with hd2; subst hd2
      rw [← hkd, hk]
      simp only [Bool.false_eq_true, if_false]
      obtain ⟨h3, h4⟩ := eqCells_len hb
      obtain ⟨x, rfl⟩ := List.length_eq_one_iff.1 h3
      obtain ⟨y, rfl⟩ := List.length_eq_one_iff.1 h4
      obtain ⟨u, rfl⟩ := List.length_eq_one_iff.1 h1
      obtain ⟨v, rfl⟩ := List.length_eq_one_iff.1 h2
      simp only [eqCells] at hb
      cases he : eq1 t x y with
      | none => rw [he] at hb; simp at hb
      | some b1 =>
        rw [he] at hb
        simp only [Bool.and_true, Option.some.injEq] at hb
        subst hb
        rw [show d + 1 + D = (d + D) + 1 from by omega]
        exact hrun x y u v γ ω w b1 (hx 0 x u rfl rfl) (hy 0 y v rfl rfl) he
    split at h
    · rename_i hd
      injection h with h
      refine plain hd rfl h.symm (fun m1 m2 u v γ ω w b r1 r2 he => ?_)
      cases r1 <;> cases r2 <;> simp [eq1] at he
      subst he
      exact run_equalIn_bool' w _ T _ _ hd
    · rename_i k hd
      injection h with h
      refine plain hd rfl h.symm (fun m1 m2 u v γ ω w b r1 r2 he => ?_)
      cases r1 <;> cases r2 <;> simp [eq1] at he
      obtain ⟨h1, h2⟩ := he
      subst h1; subst h2
      rw [run_equalIn_int w _ T _ _ _ _ hd]
      simp [BEq.beq]
    · rename_i hd
      injection h with h
      refine plain hd rfl h.symm (fun m1 m2 u v γ ω w b r1 r2 he => ?_)
      cases r1 <;> cases r2 <;> simp [eq1] at he
      subst he
      rw [run_equalIn_string w _ T _ _ hd, bytes_eq0]
    · rename_i fs hd
      split at h
      · exact absurd h (by simp)
      · rename_i hst
        refine ⟨fun γ ω w xs ys us vs b h1 h2 hx hy hb ti hti hsz => ?_, fun ti hti hk => ?_⟩
        · obtain ⟨d2, hd2, hkd⟩ := (ty_of hti).und
          rw [hd] at hd2; injection hd2 with hd2; subst hd2
          have hk : aggKd ti.kd = true := by rw [← hkd]; rfl
          rw [hk]
          simp only [if_true]
          have hf : P.fieldsOf T = fs := by simp [Program.fieldsOf, hd]
          rw [show d + 1 + D = (d + D) + 1 from by omega, run_equalIn_struct w (d + D) T us.toArray vs.toArray (by rw [hf]; exact hd) (by simpa using hst), hf]
          exact eqFields_run D d (fun T n h => eqLeaf_run D d T n h) fs.toList 0 ts h xs ys us vs b (by omega) (by omega) hx hy (by simpa using hb)
        · obtain ⟨d2, hd2, hkd⟩ := (ty_of hti).und
          rw [hd] at hd2; injection hd2 with hd2; subst hd2
          rw [← hkd] at hk
          exact absurd hk (by simp [tkOf, aggKd])
    · exact absurd h (by simp)

/-- Two structs are compared. -/
theorem eqTy_run {T : TypeId} {ts : List TK} (h : eqTy P T = some ts) {xs ys : List MV} {u v : Value} (hu : Rep γ ω w (.agg xs) u) (hv : Rep γ ω w (.agg ys) v) {b : Bool} (hb : eqCells ts xs ys = some b) (x y : Operand) :
    (do eqGuard .eql T x y u v; binOp .eql T u v : Sem Value).run P w = .ok (.bool b) w ∧ (do eqGuard .neq T x y u v; binOp .neq T u v : Sem Value).run P w = .ok (.bool (!b)) w := by
  unfold eqTy at h
  split at h
  · exact absurd h (by simp)
  · rename_i hg
    split at h
    · rename_i ti l hti hl
      split at h
      · rename_i hc
        injection h with h; subst h
        obtain ⟨D, hD⟩ : ∃ D, 10000 = 20 + D := ⟨9980, rfl⟩
        obtain ⟨h1, _⟩ := eqLeaf_run D 20 T l hl
        obtain ⟨e1, e2⟩ := eqCells_len hb
        cases hu with
        | agg _ us hlu hru _ =>
          cases hv with
          | agg _ vs hlv hrv _ =>
            have := h1 γ ω w xs ys us vs b (by omega) (by omega) hru hrv hb ti hti hc.2
            rw [hc.1] at this
            simp only [if_true] at this
            have hg2 : P.eqGuardType P.depth T = false := by simpa using hg
            refine ⟨?_, ?_⟩
            · simp only [Sem.run_bind, run_eqGuard_agg w .eql T x y _ _ hg2, Result.andThen_ok, run_eql_struct w T]
              rw [hD, this]; rfl
            · simp only [Sem.run_bind, run_eqGuard_agg w .neq T x y _ _ hg2, Result.andThen_ok, run_neq_struct w T]
              rw [hD, this]; rfl
      · exact absurd h (by simp)
    · exact absurd h (by simp)
end
end Go.Pv

end M2b
section M3
/- A library of this session: operations on numbers, bools and strings. -/
set_option linter.unusedVariables false
set_option linter.unusedSimpArgs false
namespace Go.Pv

theorem bytes_eq (a b : ByteArray) : (a.toList == b.toList) = decide (a = b) := by
  have h : a.toList = b.toList ↔ a = b := by
    constructor
    · intro h
      rw [ByteArray.toList_eq, ByteArray.toList_eq] at h
      exact ByteArray.ext (Array.toList_inj.1 h)
    · intro h; rw [h]
  by_cases e : a = b
  · simp [e]
  · simp [e, h]

def sless (a b : ByteArray) : Bool := Op.bytesLess a.toList b.toList

def bitI (op : BinOp) (k : IntKind) (x y : Int) : Int :=
  let a := BitVec.ofInt k.bits x
  let b := BitVec.ofInt k.bits y
  match op with
  | .and => k.wrap (a &&& b).toNat
  | .or => k.wrap (a ||| b).toNat
  | .xor => k.wrap (a ^^^ b).toNat
  | _ => k.wrap (a &&& ~~~b).toNat

def binInt (op : BinOp) (k : IntKind) (a b : Int) (K : MV → Prop) : Prop :=
  match op with
  | .add => K (.int k (k.wrap (a + b)))
  | .sub => K (.int k (k.wrap (a - b)))
  | .mul => K (.int k (k.wrap (a * b)))
  | .quo => b ≠ 0 ∧ K (.int k (k.wrap (a.tdiv b)))
  | .rem => b ≠ 0 ∧ K (.int k (a.tmod b))
  | .and => K (.int k (bitI .and k a b))
  | .or => K (.int k (bitI .or k a b))
  | .xor => K (.int k (bitI .xor k a b))
  | .andNot => K (.int k (bitI .andNot k a b))
  | .eql => K (.bool (decide (a = b)))
  | .neq => K (.bool (!decide (a = b)))
  | .lss => K (.bool (decide (a < b)))
  | .leq => K (.bool (decide (a ≤ b)))
  | .gtr => K (.bool (decide (a > b)))
  | .geq => K (.bool (decide (a ≥ b)))
  | .shl | .shr => False

def binStr (op : BinOp) (a b : ByteArray) (K : MV → Prop) : Prop :=
  match op with
  | .add => a.size + b.size ≤ 9223372036854775807 ∧ K (.str (a ++ b))
  | .eql => K (.bool (decide (a = b)))
  | .neq => K (.bool (!decide (a = b)))
  | .lss => K (.bool (sless a b))
  | .leq => K (.bool (sless a b || decide (a = b)))
  | .gtr => K (.bool (!(sless a b || decide (a = b))))
  | .geq => K (.bool (!(sless a b)))
  | _ => False

def kdOf (P : Program) (T : TypeId) : TK := match tiOf P T with | some ti => ti.kd | none => .other

theorem und_of_kd {P : Program} {T : TypeId} {k : TK} (h : kdOf P T = k) (hk : k ≠ .other) : ∃ d, P.underlying T = some d ∧ tkOf d = k := by
  unfold kdOf at h
  split at h
  · rename_i ti hti
    obtain ⟨d, h1, h2⟩ := (ty_of hti).und
    exact ⟨d, h1, h2.trans h⟩
  · exact absurd h.symm hk

def binP (P : Program) (op : BinOp) (T : TypeId) (x y : MV) (K : MV → Prop) : Prop :=
  match x, y with
  | .int k a, .int k' b =>
    match op with
    | .shl => 0 ≤ b ∧ K (.int k (k.wrap (a * 2 ^ (min b.toNat k.bits))))
    | .shr => 0 ≤ b ∧ K (.int k (a.fdiv (2 ^ (min b.toNat k.bits))))
    | op => if k = k' then binInt op k a b K else False
  | .str a, .str b => binStr op a b K
  | .bool a, .bool b =>
    match op with
    | .eql => kdOf P T = .bool ∧ K (.bool (a == b))
    | .neq => kdOf P T = .bool ∧ K (.bool (!(a == b)))
    | _ => False
  | .ptr _ _, .nilptr | .cptr _ _, .nilptr =>
    match op with
    | .eql => (∃ e, kdOf P T = .ptr e) ∧ K (.bool false)
    | .neq => (∃ e, kdOf P T = .ptr e) ∧ K (.bool true)
    | _ => False
  | .nilifc, .nilifc =>
    match op with
    | .eql => kdOf P T = .iface ∧ K (.bool true)
    | .neq => kdOf P T = .iface ∧ K (.bool false)
    | _ => False
  | .agg xs, .agg ys => match eqTy P T with
    | some ts => match eqCells ts xs ys with
      | some b => (match op with
        | .eql => K (.bool b)
        | .neq => K (.bool (!b))
        | _ => False)
      | none => False
    | none => False
  | _, _ => False

theorem tk_bool {d : TypeDesc} (h : tkOf d = .bool) : d = .bool := by cases d <;> simp [tkOf] at h ⊢
theorem tk_int {d : TypeDesc} {k : IntKind} (h : tkOf d = .int k) : d = .int k := by cases d <;> simp [tkOf] at h ⊢; exact h
theorem tk_str {d : TypeDesc} (h : tkOf d = .str) : d = .string := by cases d <;> simp [tkOf] at h ⊢
theorem tk_slice {d : TypeDesc} {e : TypeId} (h : tkOf d = .slice e) : d = .slice e := by cases d <;> simp [tkOf] at h ⊢; exact h
theorem tk_ptr {d : TypeDesc} {e : TypeId} (h : tkOf d = .ptr e) : d = .pointer e := by cases d <;> simp [tkOf] at h ⊢; exact h
theorem tk_iface {d : TypeDesc} (h : tkOf d = .iface) : ∃ ms, d = .interface ms := by cases d <;> simp [tkOf] at h ⊢
theorem tk_map {d : TypeDesc} {k e : TypeId} (h : tkOf d = .map k e) : d = .map k e := by cases d <;> simp [tkOf] at h ⊢; exact h
theorem tk_strct {d : TypeDesc} {fs : List (Nat × TypeId)} (h : tkOf d = .strct fs) : ∃ as : Array Field, d = .struct as ∧ fs = as.toList.map fun f => (f.offset, f.type) := by
  cases d <;> simp [tkOf] at h ⊢; exact h.symm

section
variable {P : Program} {γ : List Nat} {ω : Own} {w : World}

theorem run_eqlBool {T : TypeId} {a b : Bool} (hT : kdOf P T = .bool) : (Op.equal T (.bool a) (.bool b)).run P w = .ok (a == b) w := by
  obtain ⟨d, hd, hk⟩ := und_of_kd hT (by simp)
  have := tk_bool hk; subst this
  have key : ∀ n, (Op.equalIn (n + 1) T (.bool a) (.bool b)).run P w = .ok (a == b) w := fun n => by simp [Op.equalIn, run_underlying hd]
  exact key 9999

theorem run_eqlPtr {T e : TypeId} {a : Option Addr} (hT : kdOf P T = .ptr e) : (Op.equal T (.pointer a) (.pointer none)).run P w = .ok a.isNone w := by
  obtain ⟨d, hd, hk⟩ := und_of_kd hT (by simp)
  have := tk_ptr hk; subst this
  have key : ∀ n, (Op.equalIn (n + 1) T (.pointer a) (.pointer none)).run P w = .ok a.isNone w := fun n => by cases a <;> simp [Op.equalIn, run_underlying hd]
  exact key 9999

theorem run_eqlSlice {T e : TypeId} {a : Addr} {n c c' : Nat} (hT : kdOf P T = .slice e) : (Op.equal T (.slice (some a) n c) (.slice none 0 c')).run P w = .ok false w := by
  obtain ⟨d, hd, hk⟩ := und_of_kd hT (by simp)
  have := tk_slice hk; subst this
  have key : ∀ k, (Op.equalIn (k + 1) T (.slice (some a) n c) (.slice none 0 c')).run P w = .ok false w := fun n => by simp [Op.equalIn, run_underlying hd]
  exact key 9999

theorem run_eqlNil {T e : TypeId} (hT : kdOf P T = .slice e) : (Op.equal T (.slice none 0 0) (.slice none 0 0)).run P w = .ok true w := by
  obtain ⟨d, hd, hk⟩ := und_of_kd hT (by simp)
  have := tk_slice hk; subst this
  have key : ∀ k, (Op.equalIn (k + 1) T (.slice none 0 0) (.slice none 0 0)).run P w = .ok true w := fun n => by simp [Op.equalIn, run_underlying hd]
  exact key 9999

theorem run_eqlIfc {T : TypeId} (hT : kdOf P T = .iface) : (Op.equal T .nilIface .nilIface).run P w = .ok true w := by
  obtain ⟨d, hd, hk⟩ := und_of_kd hT (by simp)
  obtain ⟨ms, this⟩ := tk_iface hk; subst this
  have key : ∀ n, (Op.equalIn (n + 1) T .nilIface .nilIface).run P w = .ok true w := fun n => by simp [Op.equalIn, run_underlying hd]
  exact key 9999

theorem binInt_run {op : BinOp} {k : IntKind} {a b : Int} {K : MV → Prop} {T : TypeId} (h : binInt op k a b K) : ∃ m v, (binOp op T (.int k a) (.int k b)).run P w = .ok v w ∧ Rep γ ω w m v ∧ K m := by
  cases op <;> simp only [binInt] at h <;> first
    | exact h.elim
    | (obtain ⟨h0, h⟩ := h; refine ⟨_, _, ?_, .int _ _, h⟩; simp [binOp, Op.intDiv, h0])
    | (refine ⟨_, _, ?_, .int _ _, h⟩; simp [binOp, Op.intArith, Op.intBits, bitI])
    | (refine ⟨_, _, ?_, .bool _, h⟩; simp only [binOp, Op.intCmp, ne_eq, not_true_eq_false, if_false]; rfl)

theorem binStr_run {op : BinOp} {a b : ByteArray} {K : MV → Prop} {T : TypeId} (h : binStr op a b K) : ∃ m v, (binOp op T (.string a) (.string b)).run P w = .ok v w ∧ Rep γ ω w m v ∧ K m := by
  cases op <;> simp only [binStr] at h <;> first
    | exact h.elim
    | (obtain ⟨h0, h⟩ := h
       refine ⟨_, _, ?_, Rep.str _, h⟩
       have : ¬ (((a.size + b.size : Nat) : Int) > IntKind.i64.max) := by simp [IntKind.max, IntKind.bits, IntKind.signed]; omega
       simp only [binOp, Op.stringOp]
       rw [if_neg this]; rfl)
    | (refine ⟨_, _, ?_, Rep.bool _, h⟩; simp [binOp, Op.stringOp, bytes_eq, sless])

theorem eqGuard_int {op : BinOp} {T : TypeId} {x y : Operand} {a b : Value} (h1 : ∀ cs, a ≠ .agg cs) (h2 : a ≠ .nilIface) : (eqGuard op T x y a b).run P w = .ok () w := by
  cases a <;> first
    | exact absurd rfl (h1 _)
    | exact absurd rfl h2
    | (unfold eqGuard; cases op <;> simp)

theorem Rep.noAgg {m : MV} {v : Value} (h : Rep γ ω w m v) (hm : ∀ cs, m ≠ .agg cs) : ∀ cs, v ≠ .agg cs := by
  cases h <;> simp
  · exact absurd rfl (hm _)

theorem binP_run {op : BinOp} {T : TypeId} {m1 m2 : MV} {v1 v2 : Value} {K : MV → Prop} (h1 : Val γ ω w m1 v1) (h2 : Val γ ω w m2 v2) (h : binP P op T m1 m2 K) (x y : Operand)
    (hn : v1 = .nilIface → ∃ c, y = .const c) :
    ∃ m v, (do eqGuard op T x y v1 v2; binOp op T v1 v2 : Sem Value).run P w = .ok v w ∧ Rep γ ω w m v ∧ K m := by
  unfold binP at h
  split at h
  · rename_i k a k' b
    have e1 := h1.int; have e2 := h2.int; subst e1; subst e2
    have hg : (eqGuard op T x y (.int k a) (.int k' b)).run P w = .ok () w := eqGuard_int (by simp) (by simp)
    simp only [Sem.run_bind, hg, Result.andThen_ok]
    split at h
    · obtain ⟨h0, h⟩ := h
      refine ⟨_, _, ?_, .int _ _, h⟩
      simp [binOp, Op.shift, Int.not_lt.2 h0]
    · obtain ⟨h0, h⟩ := h
      refine ⟨_, _, ?_, .int _ _, h⟩
      simp [binOp, Op.shift, Int.not_lt.2 h0]
    · split at h
      · rename_i hk; subst hk; exact binInt_run h
      · exact h.elim
  · rename_i a b
    have e1 := h1.str; have e2 := h2.str; subst e1; subst e2
    have hg : (eqGuard op T x y (.string a) (.string b)).run P w = .ok () w := eqGuard_int (by simp) (by simp)
    simp only [Sem.run_bind, hg, Result.andThen_ok]
    exact binStr_run h
  · rename_i a b
    have e1 := h1.bool; have e2 := h2.bool; subst e1; subst e2
    have hg : (eqGuard op T x y (.bool a) (.bool b)).run P w = .ok () w := eqGuard_int (by simp) (by simp)
    simp only [Sem.run_bind, hg, Result.andThen_ok]
    split at h
    · exact ⟨_, _, by simp [binOp, run_eqlBool h.1], .bool _, h.2⟩
    · exact ⟨_, _, by simp [binOp, run_eqlBool h.1], .bool _, h.2⟩
    · exact h.elim
  · rename_i b off
    obtain ⟨blk, hb, rfl⟩ := h1.ptr
    have e2 : v2 = .pointer none := by rcases h2 with h2 | ⟨_, _, h2⟩ <;> cases h2; rfl
    subst e2
    have hg : ∀ a, (eqGuard op T x y (.pointer a) (.pointer none)).run P w = .ok () w := fun a => eqGuard_int (by simp) (by simp)
    simp only [Sem.run_bind, hg, Result.andThen_ok]
    split at h
    · obtain ⟨⟨e, he⟩, h⟩ := h
      exact ⟨_, _, by simp [binOp, run_eqlPtr he], .bool _, h⟩
    · obtain ⟨⟨e, he⟩, h⟩ := h
      exact ⟨_, _, by simp [binOp, run_eqlPtr he], .bool _, h⟩
    · exact h.elim
  · rename_i b off
    have e1 := h1.cptr
    have e2 : v2 = .pointer none := by rcases h2 with h2 | ⟨_, _, h2⟩ <;> cases h2; rfl
    subst e2
    have hg : ∀ a, (eqGuard op T x y (.pointer a) (.pointer none)).run P w = .ok () w := fun a => eqGuard_int (by simp) (by simp)
    cases e1
    simp only [Sem.run_bind, hg, Result.andThen_ok]
    split at h
    · obtain ⟨⟨e, he⟩, h⟩ := h
      exact ⟨_, _, by simp [binOp, run_eqlPtr he], .bool _, h⟩
    · obtain ⟨⟨e, he⟩, h⟩ := h
      exact ⟨_, _, by simp [binOp, run_eqlPtr he], .bool _, h⟩
    · exact h.elim
  · have e1 : v1 = .nilIface := by rcases h1 with h1 | ⟨_, _, h1⟩ <;> cases h1; rfl
    have e2 : v2 = .nilIface := by rcases h2 with h2 | ⟨_, _, h2⟩ <;> cases h2; rfl
    subst e1; subst e2
    obtain ⟨c, rfl⟩ := hn rfl
    have hg : (eqGuard op T x (.const c) .nilIface .nilIface).run P w = .ok () w := by
      unfold eqGuard; cases op <;> simp
    simp only [Sem.run_bind, hg, Result.andThen_ok]
    split at h
    · exact ⟨_, _, by simp [binOp, run_eqlIfc h.1], .bool _, h.2⟩
    · exact ⟨_, _, by simp [binOp, run_eqlIfc h.1], .bool _, h.2⟩
    · exact h.elim
  · split at h
    · rename_i ts hts
      split at h
      · rename_i b hb
        obtain ⟨g1, g2⟩ := eqTy_run hts h1.agg h2.agg hb x y
        split at h
        · exact ⟨_, _, g1, .bool _, h⟩
        · exact ⟨_, _, g2, .bool _, h⟩
        · exact h.elim
      · exact h.elim
    · exact h.elim
  · exact h.elim

end
end Go.Pv

end M3
section M4
/- A library of this session: operations that read memory. -/
set_option linter.unusedVariables false
set_option linter.unusedSimpArgs false
namespace Go.Pv

section
variable {P : Program} {γ : List Nat} {ω : Own} {w : World}

theorem run_loadFrom (b o : Nat) : ∀ (us : List Value) (i : Nat) (acc : Array Value), (∀ (j : Nat) (u : Value), us[j]? = some u → w.cell? ⟨b, o + (i + j), none⟩ = some u) →
    (loadCellsFrom ⟨b, o, none⟩ i us.length acc).run P w = .ok (acc ++ us.toArray) w
  | [], i, acc, h => by simp [loadCellsFrom]
  | u :: r, i, acc, h => by
    have h0 := h 0 u (by simp)
    have ih := run_loadFrom b o r (i + 1) (acc.push u) (fun j x hj => by
      have := h (j + 1) x (by simpa using hj)
      rw [show o + (i + 1 + j) = o + (i + (j + 1)) from by omega]
      exact this)
    simp only [List.length_cons, loadCellsFrom, Sem.run_bind, load, Sem.run, Addr.add_lit]
    simp only [Nat.add_zero] at h0
    rw [h0]
    simp only [Result.andThen_ok, ih]
    simp

theorem run_loadC (b o : Nat) (us : List Value) (h : ∀ (j : Nat) (u : Value), us[j]? = some u → w.cell? ⟨b, o + j, none⟩ = some u) :
    (loadCells ⟨b, o, none⟩ us.length).run P w = .ok us.toArray w := by
  have := run_loadFrom (P := P) (w := w) b o us 0 #[] (fun j u hj => by rw [Nat.zero_add]; exact h j u hj)
  simpa [loadCells] using this

theorem run_load1 (b o : Nat) (u : Value) (h : w.cell? ⟨b, o, none⟩ = some u) : (load ⟨b, o, none⟩).run P w = .ok u w := by
  simp [load, Sem.run, h]

theorem run_isAggT {T : TypeId} {ti : TI} (h : Ty P T ti) : (isAgg T).run P w = .ok (aggKd ti.kd) w := by
  obtain ⟨d, hd, hk⟩ := h.und
  unfold isAgg
  simp only [Sem.run_bind, run_underlying hd, Result.andThen_ok]
  rw [← hk]
  cases d <;> rfl

theorem run_sizeT {T : TypeId} {ti : TI} (h : Ty P T ti) : (sizeOf T).run P w = .ok ti.size w := by
  obtain ⟨i, z, h1, h2, _⟩ := h.info
  simp [sizeOf, typeInfo, h1, h2]

theorem run_zeroT {T : TypeId} {ti : TI} (h : Ty P T ti) : ∃ z, (zeroValue T).run P w = .ok z w ∧ zerosOf z.cells.toList = some ti.zero ∧ isAggV z = aggKd ti.kd := by
  obtain ⟨i, z, h1, h2, h3, h4, h5, h6, h7⟩ := h.info
  exact ⟨z, by simp [zeroValue, typeInfo, h1, h4], h5, h7⟩

/-- What is loaded at a known address. -/
theorem run_loadVarT {T : TypeId} {ti : TI} (h : Ty P T ti) (hna : aggKd ti.kd = false) (b o : Nat) (u : Value) (hu : w.cell? ⟨b, o, none⟩ = some u) : (loadVar T ⟨b, o, none⟩).run P w = .ok u w := by
  simp [loadVar, run_isAggT h, hna, load, Sem.run, hu]

theorem run_loadVarA {T : TypeId} {ti : TI} (h : Ty P T ti) (hna : aggKd ti.kd = true) (b o : Nat) (us : List Value) (hl : us.length = ti.size) (hu : ∀ (j : Nat) (u : Value), us[j]? = some u → w.cell? ⟨b, o + j, none⟩ = some u) :
    (loadVar T ⟨b, o, none⟩).run P w = .ok (.agg us.toArray) w := by
  simp [loadVar, run_isAggT h, hna, run_sizeT h, ← hl, run_loadC b o us hu]

end

/-! ### The operations -/
def movP (st : St) (x : Operand) (K : Ct → Prop) : Prop :=
  match x with
  | .tmp t => match lk st.v t with
    | .sh m => K (.sh m)
    | .own _ _ => K (.al (.slot t))
    | .al p => K (.al p)
    | .eadr p i o => K (.eadr p i o)
    | .tupc cs => (cs.all fun c => c.1.isNone) = true ∧ K (.tupc cs)
    | _ => False
  | .const v => match mvConst v with
    | some m => K (.sh m)
    | none => False
  | .func f => K (.sh (.fn f []))
  | .global _ => False

def unP (op : UnOp) (x : MV) (K : MV → Prop) : Prop :=
  match op, x with
  | .not, .bool b => K (.bool (!b))
  | .neg, .int k n => K (.int k (k.wrap (0 - n)))
  | .xor, .int k n => K (.int k (bitI .xor k (if k.signed then -1 else k.max) n))
  | _, _ => False

def convP (P : Program) (s d : TypeId) (x : MV) (K : MV → Prop) : Prop :=
  match kdOf P d, x with
  | .int k, .int _ n => kdOf P s ≠ .other ∧ K (.int k (k.wrap n))
  | .str, .int _ n => kdOf P s ≠ .other ∧ K (.str (Utf8.encode n))
  | .str, .str a => kdOf P s ≠ .other ∧ K (.str a)
  | _, _ => False

/-- The cells of a value of type T that stand from off on. -/
def cutC (ti : TI) (cs : List MV) (off : Nat) (K : MV → Prop) : Prop :=
  if aggKd ti.kd = true then off + ti.size ≤ cs.length ∧ K (.agg ((cs.drop off).take ti.size))
  else match cs[off]? with
    | some c => K c
    | none => False

def shs : List Ct → Option (List MV)
  | [] => some []
  | .sh m :: r => (shs r).map (m :: ·)
  | _ => none

def loadP (P : Program) (st : St) (T : TypeId) (x : Operand) (K : Ct → Prop) : Prop :=
  match tiOf P T with
  | none => False
  | some ti =>
    match x with
    | .tmp t => match lk st.v t with
      | .sh (.cptr cs off) => cutC ti cs off (fun m => K (.sh m))
      | .sh (.ptr k off) => match st.B[k]? with
        | some (some cs) =>
          if aggKd ti.kd = true then (match shs ((cs.drop off).take ti.size) with
            | some ms => off + ti.size ≤ cs.length ∧ K (.sh (.agg ms))
            | none => False)
          else (match cs[off]? with
            | some (.sh m) => K (.sh m)
            | some (.own _ _) => K (.al (.cell k off))
            | _ => False)
        | _ => False
      | .eadr p i off => match st.at p with
        | .own sz (.list es) => match es[i]? with
          | some e => cutC ti e off (fun m => K (.sh m))
          | none => False
        | _ => False
      | _ => False
    | _ => False

def fieldOf (P : Program) (T : TypeId) (f : Nat) : Option (Nat × TypeId) :=
  match kdOf P T with
  | .strct fs => fs[f]?
  | _ => none

def szOf (P : Program) (T : TypeId) : Nat := match tiOf P T with | some ti => ti.size | none => 0

def faP (P : Program) (st : St) (T : TypeId) (x : Operand) (f : Nat) (K : Ct → Prop) : Prop :=
  match fieldOf P T f with
  | some (o, fT) => szOf P fT ≠ 0 ∧ (match x with
    | .tmp t => match lk st.v t with
      | .sh (.cptr cs off) => K (.sh (.cptr cs (off + o)))
      | .sh (.ptr k off) => K (.sh (.ptr k (off + o)))
      | .eadr p i off => K (.eadr p i (off + o))
      | _ => False
    | _ => False)
  | none => False

def fieldP (P : Program) (st : St) (T : TypeId) (x : Operand) (f : Nat) (K : MV → Prop) : Prop :=
  match fieldOf P T f with
  | some (o, fT) => match tiOf P fT with
    | some ti => match opv st x with
      | some (.agg cs) => cutC ti cs o K
      | _ => False
    | none => False
  | none => False

/-- The element's address. -/
def iaP (P : Program) (st : St) (T : TypeId) (x i : Operand) (K : Ct → Prop) : Prop :=
  match kdOf P T with
  | .slice eT => match opv st i with
    | some (.int _ n) => 0 ≤ n ∧ szOf P eT ≠ 0 ∧ (match x with
      | .tmp t => match lk st.v t with
        | .sh (.list es) => ∃ e, es[n.toNat]? = some e ∧ e.length = szOf P eT ∧ K (.sh (.cptr e 0))
        | .al p => match st.at p with
          | .own sz (.list es) => n.toNat < es.length ∧ sz = szOf P eT ∧ K (.eadr p n.toNat 0)
          | _ => False
        | .own sz (.list es) => n.toNat < es.length ∧ sz = szOf P eT ∧ K (.eadr (.slot t) n.toNat 0)
        | _ => False
      | _ => False)
    | _ => False
  | _ => False

def bAt (s : ByteArray) (i : Nat) : Int := ((s.data.getD i 0).toNat : Int)

def idxP (P : Program) (st : St) (T : TypeId) (x i : Operand) (K : MV → Prop) : Prop :=
  match kdOf P T with
  | .str => match opv st x, opv st i with
    | some (.str s), some (.int _ n) => 0 ≤ n ∧ n.toNat < s.size ∧ K (.int .u8 (bAt s n.toNat))
    | _, _ => False
  | _ => False

/-- A bound of a slice expression. -/
def bndOf (st : St) (d : Nat) : Option Operand → Option Int
  | none => some d
  | some x => match opv st x with
    | some (.int _ n) => some n
    | _ => none

def sliceP (P : Program) (st : St) (T : TypeId) (x : Operand) (lo hi : Option Operand) (K : MV → Prop) : Prop :=
  match kdOf P T with
  | .str => match opv st x with
    | some (.str s) => match bndOf st 0 lo, bndOf st s.size hi with
      | some l, some h => 0 ≤ l ∧ l ≤ h ∧ h ≤ (s.size : Int) ∧ K (.str (s.extract l.toNat h.toNat))
      | _, _ => False
    | _ => False
  | .slice eT => match x with
    | .tmp t => match lk st.v t with
      | .sh (.list es) => match bndOf st 0 lo, bndOf st es.length hi with
        | some l, some h => 0 ≤ l ∧ l ≤ h ∧ h ≤ (es.length : Int) ∧ ((∀ e, es[l.toNat]? = some e → e.length = szOf P eT) ∧ szOf P eT ≠ 0) ∧ K (.list ((es.drop l.toNat).take (h.toNat - l.toNat)))
        | _, _ => False
      | _ => False
    | _ => False
  | _ => False

def ncP (st : St) (x : Operand) (K : Ct → Prop) : Prop :=
  match x with
  | .tmp t => match lk st.v t with
    | .sh (.ptr k o) => K (.sh (.ptr k o))
    | .sh (.cptr cs o) => K (.sh (.cptr cs o))
    | .sh (.fn f cs) => K (.sh (.fn f cs))
    | .eadr p i o => K (.eadr p i o)
    | _ => False
  | .func f => K (.sh (.fn f []))
  | _ => False

def lenP (P : Program) (T : TypeId) (x : MV) (K : MV → Prop) : Prop :=
  match kdOf P T, x with
  | .str, .str s => K (.int .i64 s.size)
  | .slice _, .list es => K (.int .i64 es.length)
  | .map _ _, .map m => K (.int .i64 m.length)
  | _, _ => False

def mm2 (mx : Bool) (a b : Int) : Int := if mx then (if a < b then b else a) else (if b < a then b else a)

def mmP (mx : Bool) : List MV → (MV → Prop) → Prop
  | [.int k a, .int _ b], K => K (.int k (mm2 mx a b))
  | [.int k a, .int _ b, .int _ c], K => K (.int k (mm2 mx (mm2 mx a b) c))
  | _, _ => False

def shv (st : St) : Operand → Option MV
  | .tmp t => match lk st.v t with
    | .sh m => some m
    | _ => none
  | .const v => mvConst v
  | .func f => some (.fn f [])
  | .global _ => none

def shvs (st : St) : List Operand → Option (List MV)
  | [] => some []
  | x :: r => match shv st x, shvs st r with
    | some m, some l => some (m :: l)
    | _, _ => none

def opvs (st : St) : List Operand → Option (List MV)
  | [] => some []
  | x :: r => match opv st x, opvs st r with
    | some m, some l => some (m :: l)
    | _, _ => none

/-- Is a slice nil, where that is known? -/
def nilness (st : St) : Operand → Option Bool
  | .tmp t => match lk st.v t with
    | .sh .nil => some true
    | .sh (.list (_ :: _)) => some false
    | .own _ (.list (_ :: _)) => some false
    | .al p => match st.at p with
      | .own _ (.list (_ :: _)) => some false
      | _ => none
    | _ => none
  | _ => none

def extP (st : St) (x : Operand) (i : Nat) (K : Ct → Prop) : Prop :=
  match x with
  | .tmp t => match lk st.v t with
    | .sh (.tup vs) => match vs[i]? with
      | some m => K (.sh m)
      | none => False
    | .tupc cs => match cs[i]? with
      | some (none, m) => K (.sh m)
      | _ => False
    | _ => False
  | _ => False

def isNilC : Operand → Bool
  | .const (.slice none 0 0) => true
  | _ => false

def binE (P : Program) (st : St) (op : BinOp) (T : TypeId) (x y : Operand) (K : Ct → Prop) : Prop :=
  if isNilC y = true then
    (match nilness st x with
    | some b => (match op with
      | .eql => (∃ e, kdOf P T = .slice e) ∧ K (.sh (.bool b))
      | .neq => (∃ e, kdOf P T = .slice e) ∧ K (.sh (.bool (!b)))
      | _ => False)
    | none => False)
  else match opv st x, opv st y with
    | some a, some b => (a matches .nilifc → y matches .const _) ∧ binP P op T a b (fun m => K (.sh m))
    | _, _ => False

/-- Operations that change nothing: what they say of their slot. -/
def pureP (P : Program) (st : St) (o : Op) (K : Ct → Prop) : Prop :=
  match o with
  | .move x => movP st x K
  | .binOp op T x y _ => binE P st op T x y K
  | .pick c x y => match opv st c with
    | some (.bool b) => if b = true then (match shv st x with
        | some m => K (.sh m)
        | none => False)
      else (match shv st y with
        | some m => K (.sh m)
        | none => False)
    | _ => False
  | .unOp op _ x => match opv st x with
    | some a => unP op a (fun m => K (.sh m))
    | none => False
  | .convert s d x => match opv st x with
    | some a => convP P s d a (fun m => K (.sh m))
    | none => False
  | .extract x i => extP st x i K
  | .load T x => loadP P st T x K
  | .fieldAddr T x f => faP P st T x f K
  | .field T x f => fieldP P st T x f (fun m => K (.sh m))
  | .indexAddr T x i => iaP P st T x i K
  | .index T x i => idxP P st T x i (fun m => K (.sh m))
  | .slice T x lo hi none => sliceP P st T x lo hi (fun m => K (.sh m))
  | .nilCheck x => ncP st x K
  | .makeFunc (.func f) fs cs => fs.size = 0 ∧ (match shvs st cs.toList with
    | some ms => K (.sh (.fn f ms))
    | none => False)
  | .call c => match c.callee with
    | .builtin .len => match c.args.toList with
      | [x] => match opv st x with
        | some m => lenP P (c.argTypes.getD 0 0) m (fun m => K (.sh m)) ∧ c.argTypes.size ≠ 0
        | none => False
      | _ => False
    | .builtin .min => match opvs st c.args.toList with
      | some ms => mmP false ms (fun m => K (.sh m))
      | none => False
    | .builtin .max => match opvs st c.args.toList with
      | some ms => mmP true ms (fun m => K (.sh m))
      | none => False
    | _ => False
  | _ => False

end Go.Pv

end M4
section M5
/- A library of this session: the operations that change nothing are told rightly. -/
set_option linter.unusedVariables false
set_option linter.unusedSimpArgs false
namespace Go.Pv

theorem range_map {α : Type} {f : Nat → α} {n j : Nat} {u : α} (h : ((List.range n).map f)[j]? = some u) : j < n ∧ f j = u := by
  rw [List.getElem?_map] at h
  rcases Nat.lt_or_ge j n with hj | hj
  · rw [List.getElem?_range hj] at h
    simp at h; exact ⟨hj, h⟩
  · rw [List.getElem?_eq_none (by simpa using hj)] at h
    simp at h

/-- What an operation that changes nothing comes to. -/
def Gives (P : Program) (γ : List Nat) (ω : Own) (w : World) (st : St) (tmps : Array Value) (s : Sem Value) (K : Ct → Prop) : Prop :=
  ∃ c v, s.run P w = .ok v w ∧ (∀ o, CtRep γ ω w st tmps o c v) ∧ K c

section
variable {P : Program} {γ : List Nat} {ω : Own} {w : World} {nt : Nat} {st : St} {a : Act} {K : Ct → Prop}

theorem Gives.sh {tmps : Array Value} {s : Sem Value} {m : MV} {v : Value} (h : s.run P w = .ok v w) (hr : Rep γ ω w m v) (hK : K (.sh m)) : Gives P γ ω w st tmps s K := ⟨.sh m, v, h, fun _ => hr, hK⟩
theorem Gives.of_sh {tmps : Array Value} {s : Sem Value} (h : ∃ m v, s.run P w = .ok v w ∧ Rep γ ω w m v ∧ K (.sh m)) : Gives P γ ω w st tmps s K := by
  obtain ⟨m, v, h1, h2, h3⟩ := h; exact .sh h1 h2 h3

theorem slot_rep (h : Rel γ ω w nt st a) (t : Nat) {c : Ct} (hc : lk st.v t = c) : CtRep γ ω w st a.tmps (.slot t) c (a.eval (.tmp t)) := by
  have := h.slots t; rw [hc] at this; exact this

theorem mov_ok (h : Rel γ ω w nt st a) {x : Operand} (hx : movP st x K) : ∃ c, (∀ o, CtRep γ ω w st a.tmps o c (a.eval x)) ∧ K c := by
  cases x with
  | tmp t =>
    simp only [movP] at hx
    split at hx
    · rename_i m hc; exact ⟨.sh m, fun _ => slot_rep h t hc, hx⟩
    · rename_i sz m hc; exact ⟨.al (.slot t), fun _ => ⟨⟨sz, m, hc⟩, rfl⟩, hx⟩
    · rename_i p hc; exact ⟨.al p, fun _ => slot_rep h t hc, hx⟩
    · rename_i p i o hc; exact ⟨.eadr p i o, fun _ => slot_rep h t hc, hx⟩
    · rename_i cs hc
      refine ⟨.tupc cs, fun o => ?_, hx.2⟩
      obtain ⟨vs, h1, h2, h3⟩ := slot_rep h t hc
      refine ⟨vs, h1, h2, fun i c u hi hu => ?_⟩
      have h4 := h3 i c u hi hu
      have h5 := List.all_eq_true.1 hx.1 c (List.mem_of_getElem? hi)
      obtain ⟨c1, c2⟩ := c
      cases c1 with
      | none => exact h4
      | some _ => simp at h5
    · exact hx.elim
  | const v =>
    simp only [movP] at hx
    split at hx
    · rename_i m hm
      exact ⟨.sh m, fun _ => const_rep hm, hx⟩
    · exact hx.elim
  | func f => simp only [movP] at hx; exact ⟨.sh (.fn f []), fun _ => Rep.fn f [] [] rfl (by simp), hx⟩
  | global g => simp [movP] at hx

theorem shv_rep (h : Rel γ ω w nt st a) {x : Operand} {m : MV} (hx : shv st x = some m) : Rep γ ω w m (a.eval x) := by
  cases x with
  | tmp t =>
    simp only [shv] at hx
    split at hx
    · rename_i m' hc; injection hx with hx; subst hx; exact slot_rep h t hc
    · exact absurd hx (by simp)
  | const v => exact const_rep hx
  | func f => simp only [shv, opv] at hx; injection hx with hx; subst hx; exact .fn f [] [] rfl (by simp)
  | global g => simp [shv, opv] at hx

theorem shvs_rep (h : Rel γ ω w nt st a) : ∀ {xs : List Operand} {ms : List MV}, shvs st xs = some ms → (xs.map a.eval).length = ms.length ∧ ∀ (i : Nat) (c : MV) (v : Value), ms[i]? = some c → (xs.map a.eval)[i]? = some v → Rep γ ω w c v
  | [], ms, hx => by simp [shvs] at hx; subst hx; simp
  | x :: r, ms, hx => by
    unfold shvs at hx
    split at hx
    · rename_i m l hm hl
      injection hx with hx; subst hx
      obtain ⟨h1, h2⟩ := shvs_rep h hl
      refine ⟨by simpa using h1, fun i c v hc hv => ?_⟩
      cases i with
      | zero => simp at hc hv; subst hc; subst hv; exact shv_rep h hm
      | succ i => exact h2 i c v (by simpa using hc) (by simpa using hv)
    · exact absurd hx (by simp)

theorem opvs_val (h : Rel γ ω w nt st a) : ∀ {xs : List Operand} {ms : List MV}, opvs st xs = some ms → (xs.map a.eval).length = ms.length ∧ ∀ (i : Nat) (c : MV) (v : Value), ms[i]? = some c → (xs.map a.eval)[i]? = some v → Val γ ω w c v
  | [], ms, hx => by simp [opvs] at hx; subst hx; simp
  | x :: r, ms, hx => by
    unfold opvs at hx
    split at hx
    · rename_i m l hm hl
      injection hx with hx; subst hx
      obtain ⟨h1, h2⟩ := opvs_val h hl
      refine ⟨by simpa using h1, fun i c v hc hv => ?_⟩
      cases i with
      | zero => simp at hc hv; subst hc; subst hv; exact h.val hm
      | succ i => exact h2 i c v (by simpa using hc) (by simpa using hv)
    · exact absurd hx (by simp)

theorem un_ok {op : UnOp} {m : MV} {v : Value} (hv : Val γ ω w m v) {K : MV → Prop} (h : unP op m K) : ∃ m' v', (Op.unary op v).run P w = .ok v' w ∧ Rep γ ω w m' v' ∧ K m' := by
  unfold unP at h
  split at h
  · have e := hv.bool; subst e; exact ⟨_, _, by simp [Op.unary], .bool _, h⟩
  · have e := hv.int; subst e; exact ⟨_, _, by simp [Op.unary, Op.intArith], .int _ _, h⟩
  · have e := hv.int; subst e
    refine ⟨_, _, ?_, .int _ _, h⟩
    simp only [Op.unary, Op.intBits, bitI]; rfl
  · exact h.elim

theorem conv_ok {s d : TypeId} {m : MV} {v : Value} (hv : Val γ ω w m v) {K : MV → Prop} (h : convP P s d m K) : ∃ m' v', (convert s d v).run P w = .ok v' w ∧ Rep γ ω w m' v' ∧ K m' := by
  unfold convP at h
  split at h
  · rename_i k k' n hk
    obtain ⟨hs, h⟩ := h
    obtain ⟨d1, hd1, _⟩ := und_of_kd rfl hs
    obtain ⟨d2, hd2, hk2⟩ := und_of_kd hk (by simp)
    have := tk_int hk2; subst this
    have e := hv.int; subst e
    exact ⟨_, _, by simp [convert, run_underlying hd1, run_underlying hd2, Conv.intToInt], .int _ _, h⟩
  · rename_i k' n hk
    obtain ⟨hs, h⟩ := h
    obtain ⟨d1, hd1, _⟩ := und_of_kd rfl hs
    obtain ⟨d2, hd2, hk2⟩ := und_of_kd hk (by simp)
    have := tk_str hk2; subst this
    have e := hv.int; subst e
    exact ⟨_, _, by simp [convert, run_underlying hd1, run_underlying hd2, Conv.intToString], .str _, h⟩
  · rename_i s' hk
    obtain ⟨hs, h⟩ := h
    obtain ⟨d1, hd1, _⟩ := und_of_kd rfl hs
    obtain ⟨d2, hd2, hk2⟩ := und_of_kd hk (by simp)
    have := tk_str hk2; subst this
    have e := hv.str; subst e
    exact ⟨_, _, by simp [convert, run_underlying hd1, run_underlying hd2], .str _, h⟩
  · exact h.elim

theorem ext_ok (h : Rel γ ω w nt st a) {x : Operand} {i : Nat} (hx : extP st x i K) : Gives P γ ω w st a.tmps (Instr.extract (a.eval x) i) K := by
  cases x with
  | tmp t =>
    simp only [extP] at hx
    split at hx
    · rename_i vs hc
      split at hx
      · rename_i m hm
        have hr := slot_rep h t hc
        generalize a.eval (.tmp t) = v at hr ⊢
        cases hr with
        | tup _ us hl hh =>
          have hi : i < us.length := by rw [hl]; exact (List.getElem?_eq_some_iff.1 hm).1
          refine .sh (v := us[i]) ?_ (hh i m us[i] hm (List.getElem?_eq_getElem hi)) hx
          simp [Instr.extract, List.getElem?_eq_getElem hi]
      · exact hx.elim
    · rename_i cs hc
      split at hx
      · rename_i m hm
        have hr := slot_rep h t hc
        generalize a.eval (.tmp t) = v at hr ⊢
        obtain ⟨us, rfl, hl, hh⟩ := hr
        have hi : i < us.length := by rw [hl]; exact (List.getElem?_eq_some_iff.1 hm).1
        refine .sh (v := us[i]) ?_ (hh i _ us[i] hm (List.getElem?_eq_getElem hi)) hx
        simp [Instr.extract, List.getElem?_eq_getElem hi]
      · exact hx.elim
    · exact hx.elim
  | const v => simp [extP] at hx
  | func f => simp [extP] at hx
  | global g => simp [extP] at hx

/-- The cells of a value that stand in memory, one behind the other. -/
theorem cut_load {T : TypeId} {ti : TI} (hT : Ty P T ti) {cs : List MV} {off : Nat} {K : MV → Prop} (h : cutC ti cs off K) (b o : Nat) (us : Nat → Value)
    (hc : ∀ (i : Nat) (c : MV), cs[i]? = some c → w.cell? ⟨b, o + i, none⟩ = some (us i) ∧ (us i).oneCell' = true) (hr : ∀ (i : Nat) (c : MV), cs[i]? = some c → Rep γ ω w c (us i)) :
    ∃ m v, (loadVar T ⟨b, o + off, none⟩).run P w = .ok v w ∧ Rep γ ω w m v ∧ K m := by
  unfold cutC at h
  split at h
  · rename_i hag
    obtain ⟨hle, h⟩ := h
    refine ⟨_, _, run_loadVarA hT hag b (o + off) ((List.range ti.size).map fun j => us (off + j)) (by simp) ?_, ?_, h⟩
    · intro j u hj
      obtain ⟨hlt, hj⟩ := range_map hj
      subst hj
      have hlt' : off + j < cs.length := by omega
      rw [show o + off + j = o + (off + j) from by omega]
      exact (hc (off + j) _ (List.getElem?_eq_getElem hlt')).1
    · refine .agg _ _ (by simp; omega) ?_ ?_
      · intro i c v hc1 hv1
        rw [List.getElem?_take] at hc1
        split at hc1
        · rename_i hlt
          rw [List.getElem?_drop] at hc1
          simp [List.getElem?_map, List.getElem?_range, hlt] at hv1
          subst hv1
          exact hr (off + i) c hc1
        · simp at hc1
      · intro v hv
        simp only [List.mem_map, List.mem_range] at hv
        obtain ⟨j, hj, rfl⟩ := hv
        exact (hc (off + j) _ (List.getElem?_eq_getElem (by omega))).2
  · rename_i hag
    split at h
    · rename_i c hcc
      have hag' : aggKd ti.kd = false := by simpa using hag
      exact ⟨c, us off, run_loadVarT hT hag' b (o + off) (us off) (hc off c hcc).1, hr off c hcc, h⟩
    · exact h.elim

theorem cur_own (h : Rel γ ω w nt st a) {p : Place} {sz : Nat} {m : MV} (hat : st.at p = .own sz m) {v : Value} (hv : p.cur γ a.tmps w v) : OwnRep γ ω w p.owner sz m v := by
  cases p with
  | slot s =>
    have := h.slots s
    simp only [St.at] at hat
    rw [hat] at this
    simp only [Place.cur] at hv
    rw [hv] at this
    exact this
  | cell k off =>
    simp only [St.at] at hat
    split at hat
    · rename_i cs hk
      cases ho : cs[off]? with
      | none => rw [ho] at hat; simp at hat
      | some c =>
        rw [ho] at hat
        simp at hat
        subst hat
        obtain ⟨blk, u, h1, h2, h3, h4, _, _, h6⟩ := cell_box h.boxes hk ho
        obtain ⟨blk', h1', h4'⟩ := hv
        rw [h1] at h1'; injection h1' with h1'; subst h1'
        rw [h4] at h4'; injection h4' with h4'; subst h4'
        exact h6
    · exact absurd hat (by simp)

/-- A row that one place holds: its cells. -/
theorem own_cells {o : Owner} {sz : Nat} {es : List (List MV)} {v : Value} (h : OwnRep γ ω w o sz (.list es) v) {blk : Nat} (hb : v.ownBlock = some blk) :
    ∃ cap, v = .slice (some ⟨blk, 0, none⟩) es.length cap ∧ ω blk = some o ∧ blk < w.heap.size ∧ ∃ us : Nat → Nat → Value, ∀ (j : Nat) (e : List MV), es[j]? = some e → e.length = sz ∧ ∀ (i : Nat) (c : MV), e[i]? = some c →
      w.cell? ⟨blk, j * sz + i, none⟩ = some (us j i) ∧ (us j i).oneCell' = true ∧ Rep γ ω w c (us j i) := by
  cases h with
  | list _ _ e xs hr hc ho =>
    obtain ⟨h1, h2⟩ := ho blk hb
    rcases hr.2 with ⟨rfl, h0⟩ | ⟨g, cap, cur, rfl, _, hg, hle, hmx, hcs, htk⟩
    · simp [Value.ownBlock] at hb
    · simp [Value.ownBlock] at hb
      subst hb
      refine ⟨cap, rfl, h1, h2, fun j i => (xs[j * sz + i]?).getD undef, fun j e he => ⟨hc.wid e (List.mem_of_getElem? he), fun i c hi => ?_⟩⟩
      obtain ⟨u, hu, hrep⟩ := hc.rep j e he i c hi
      have hu' : (xs[j * sz + i]?).getD undef = u := by rw [hu]; rfl
      show w.cell? _ = some ((xs[j * sz + i]?).getD undef) ∧ ((xs[j * sz + i]?).getD undef).oneCell' = true ∧ Rep γ ω w c ((xs[j * sz + i]?).getD undef)
      rw [hu']
      refine ⟨?_, hc.one u (List.mem_of_getElem? hu), hrep⟩
      have hlt : j * sz + i < xs.length := (List.getElem?_eq_some_iff.1 hu).1
      simp only [World.cell?, hg]
      rw [← htk] at hu
      rw [List.getElem?_take] at hu
      split at hu
      · simpa using hu
      · simp at hu

theorem shs_rep {k : Nat} : ∀ {cs : List Ct} {ms : List MV}, shs cs = some ms → cs = ms.map .sh
  | [], ms, h => by simp [shs] at h; subst h; rfl
  | .sh m :: r, ms, h => by
    simp only [shs] at h
    cases hr : shs r with
    | none => rw [hr] at h; simp at h
    | some l => rw [hr] at h; simp at h; subst h; simp [shs_rep (k := k) hr]
  | .own _ _ :: r, ms, h => by simp [shs] at h
  | .al _ :: r, ms, h => by simp [shs] at h
  | .eadr _ _ _ :: r, ms, h => by simp [shs] at h
  | .tupc _ :: r, ms, h => by simp [shs] at h
  | .siter _ _ :: r, ms, h => by simp [shs] at h
  | .dead :: r, ms, h => by simp [shs] at h

theorem load_ok (h : Rel γ ω w nt st a) {T : TypeId} {x : Operand} (hx : loadP P st T x K) : Gives P γ ω w st a.tmps (Instr.loadAt T (a.eval x)) K := by
  unfold loadP at hx
  split at hx
  · exact hx.elim
  rename_i ti hti
  have hT := ty_of hti
  cases x with
  | tmp t =>
    simp only at hx
    split at hx
    · rename_i cs off hc
      have hr := slot_rep h t hc
      generalize a.eval (.tmp t) = v at hr ⊢
      cases hr with
      | cptr _ _ blk o us hω hlt hcell hrep =>
        refine Gives.of_sh ?_
        obtain ⟨m, v, h1, h2, h3⟩ := cut_load (γ := γ) (ω := ω) hT hx blk o us hcell hrep
        exact ⟨m, v, by simp [Instr.loadAt, Instr.sureAddr, h1], h2, h3⟩
    · rename_i k off hc
      have hr := slot_rep h t hc
      generalize a.eval (.tmp t) = v at hr ⊢
      cases hr with
      | ptr _ _ blk hb =>
        split at hx
        · rename_i cs hk
          split at hx
          · rename_i hag
            split at hx
            · rename_i ms hms
              obtain ⟨hle, hx⟩ := hx
              have hms' := shs_rep (k := 0) hms
              have hcells : ∀ j, j < ti.size → ∃ m u, ms[j]? = some m ∧ w.cell? ⟨blk, off + j, none⟩ = some u ∧ u.oneCell' = true ∧ Rep γ ω w m u := by
                intro j hj
                have hlt : off + j < cs.length := by omega
                have hcj : ((cs.drop off).take ti.size)[j]? = some cs[off + j] := by
                  rw [List.getElem?_take, if_pos hj, List.getElem?_drop, List.getElem?_eq_getElem hlt]
                rw [hms', List.getElem?_map] at hcj
                cases hmj : ms[j]? with
                | none => rw [hmj] at hcj; simp at hcj
                | some m =>
                  rw [hmj] at hcj; simp at hcj
                  obtain ⟨blk', u, h1, h2, h3, h4, _, h5, h6⟩ := cell_box h.boxes hk (List.getElem?_eq_getElem hlt)
                  rw [hb] at h1; injection h1 with h1; subst h1
                  rw [← hcj] at h6
                  exact ⟨m, u, rfl, h4, h5, h6⟩
              have hmsl : ms.length = ti.size := by
                have := congrArg List.length hms'
                simp at this; omega
              refine Gives.of_sh ⟨.agg ms, .agg ((List.range ti.size).map fun j => (w.cell? ⟨blk, off + j, none⟩).getD undef).toArray, ?_, ?_, hx⟩
              · have := run_loadVarA (P := P) (w := w) hT hag blk off ((List.range ti.size).map fun j => (w.cell? ⟨blk, off + j, none⟩).getD undef) (by simp) (fun j u hj => by
                  obtain ⟨hlt, hj⟩ := range_map hj
                  obtain ⟨m, u', _, h4, _, _⟩ := hcells j hlt
                  rw [h4] at hj ⊢; simp at hj; rw [hj])
                simp [Instr.loadAt, Instr.sureAddr, this]
              · refine .agg _ _ (by simp [hmsl]) ?_ ?_
                · intro i c v hci hvi
                  have hi : i < ti.size := by rw [← hmsl]; exact (List.getElem?_eq_some_iff.1 hci).1
                  obtain ⟨m, u', h3, h4, _, h6⟩ := hcells i hi
                  simp [List.getElem?_map, List.getElem?_range, hi, h4] at hvi
                  rw [h3] at hci; injection hci with hci; subst hci; subst hvi
                  exact h6
                · intro v hv
                  simp only [List.mem_map, List.mem_range] at hv
                  obtain ⟨j, hj, rfl⟩ := hv
                  obtain ⟨m, u', _, h4, h5, _⟩ := hcells j hj
                  rw [h4]; exact h5
            · exact hx.elim
          · rename_i hag
            have hag' : aggKd ti.kd = false := by simpa using hag
            split at hx
            · rename_i m hm
              obtain ⟨blk', u, h1, h2, h3, h4, _, h5, h6⟩ := cell_box h.boxes hk hm
              rw [hb] at h1; injection h1 with h1; subst h1
              exact .sh (by simp [Instr.loadAt, Instr.sureAddr, run_loadVarT hT hag' blk off u h4]) h6 hx
            · rename_i sz m hm
              obtain ⟨blk', u, h1, h2, h3, h4, _, h5, h6⟩ := cell_box h.boxes hk hm
              rw [hb] at h1; injection h1 with h1; subst h1
              refine ⟨.al (.cell k off), u, by simp [Instr.loadAt, Instr.sureAddr, run_loadVarT hT hag' blk off u h4], fun _ => ⟨⟨sz, m, by simp [St.at, hk, hm]⟩, blk, hb, h4⟩, hx⟩
            · exact hx.elim
        · exact hx.elim
    · rename_i p i off hc
      have hr := slot_rep h t hc
      generalize a.eval (.tmp t) = v at hr ⊢
      obtain ⟨sz, es, u, blk, h1, h2, h3, h4, rfl⟩ := hr
      simp only [h1] at hx
      split at hx
      · rename_i e he
        obtain ⟨cap, _, _, _, us, hus⟩ := own_cells (cur_own h h1 h3) h4
        obtain ⟨hl, hus'⟩ := hus i e he
        refine Gives.of_sh ?_
        obtain ⟨m, v, r1, r2, r3⟩ := cut_load (γ := γ) (ω := ω) hT hx blk (i * sz) (us i) (fun j c hj => ⟨(hus' j c hj).1, (hus' j c hj).2.1⟩) (fun j c hj => (hus' j c hj).2.2)
        exact ⟨m, v, by simp [Instr.loadAt, Instr.sureAddr, r1], r2, r3⟩
      · exact hx.elim
    · exact hx.elim
  | const v => simp at hx
  | func f => simp at hx
  | global g => simp at hx

end
end Go.Pv

end M5
section M6
/- A library of this session: the rest of the operations that change nothing. -/
set_option linter.unusedVariables false
set_option linter.unusedSimpArgs false
namespace Go.Pv
section
variable {P : Program} {γ : List Nat} {ω : Own} {w : World} {nt : Nat} {st : St} {a : Act} {K : Ct → Prop}

theorem szOf_ne {T : TypeId} (h : szOf P T ≠ 0) : ∃ ti, tiOf P T = some ti ∧ ti.size = szOf P T := by
  unfold szOf at h ⊢
  cases ht : tiOf P T with
  | none => rw [ht] at h; simp at h
  | some ti => exact ⟨ti, rfl, rfl⟩

theorem field_desc {T : TypeId} {f o : Nat} {fT : TypeId} (h : fieldOf P T f = some (o, fT)) : ∃ as : Array Field, P.underlying T = some (.struct as) ∧ ∃ fd, as[f]? = some fd ∧ fd.offset = o ∧ fd.type = fT := by
  unfold fieldOf at h
  split at h
  · rename_i fs hfs
    obtain ⟨d, hd, hk⟩ := und_of_kd hfs (by simp)
    obtain ⟨as, rfl, rfl⟩ := tk_strct hk
    rw [List.getElem?_map] at h
    cases ha : as.toList[f]? with
    | none => rw [ha] at h; simp at h
    | some fd =>
      rw [ha] at h; simp at h
      exact ⟨as, hd, fd, by simpa using ha, h.1, h.2⟩
  · exact absurd h (by simp)

theorem run_fieldAt {T : TypeId} {f o : Nat} {fT : TypeId} (h : fieldOf P T f = some (o, fT)) (hs : szOf P fT ≠ 0) (blk off : Nat) :
    (Instr.fieldAt T (.pointer (some ⟨blk, off, none⟩)) f).run P w = .ok (.pointer (some ⟨blk, off + o, none⟩)) w := by
  obtain ⟨as, hu, fd, hf, ho, hT⟩ := field_desc h
  obtain ⟨ti, hti, hsz⟩ := szOf_ne hs
  subst hT
  have hne : ti.size ≠ 0 := by rw [hsz]; exact hs
  simp [Instr.fieldAt, run_underlying hu, hf, Instr.sureAddr, fieldPlace, run_sizeT (ty_of hti), hne, Addr.add_lit, ho]

theorem fa_ok (h : Rel γ ω w nt st a) {T : TypeId} {x : Operand} {f : Nat} (hx : faP P st T x f K) : Gives P γ ω w st a.tmps (Instr.fieldAt T (a.eval x) f) K := by
  unfold faP at hx
  split at hx
  · rename_i o fT hf
    obtain ⟨hs, hx⟩ := hx
    cases x with
    | tmp t =>
      simp only at hx
      split at hx
      · rename_i cs off hc
        have hr := slot_rep h t hc
        generalize a.eval (.tmp t) = v at hr ⊢
        cases hr with
        | cptr _ _ blk o' us hω hlt hcell hrep =>
          refine .sh (m := .cptr cs (off + o)) (run_fieldAt hf hs blk (o' + off)) ?_ hx
          rw [Nat.add_assoc]
          exact .cptr cs (off + o) blk o' us hω hlt hcell hrep
      · rename_i k off hc
        have hr := slot_rep h t hc
        generalize a.eval (.tmp t) = v at hr ⊢
        cases hr with
        | ptr _ _ blk hb => exact .sh (run_fieldAt hf hs blk off) (.ptr k (off + o) blk hb) hx
      · rename_i p i off hc
        have hr := slot_rep h t hc
        generalize a.eval (.tmp t) = v at hr ⊢
        obtain ⟨sz, es, u, blk, h1, h2, h3, h4, rfl⟩ := hr
        refine ⟨.eadr p i (off + o), _, run_fieldAt hf hs blk (i * sz + off), fun _ => ⟨sz, es, u, blk, h1, h2, h3, h4, by rw [Nat.add_assoc]⟩, hx⟩
      · exact hx.elim
    | const v => simp at hx
    | func f => simp at hx
    | global g => simp at hx
  · exact hx.elim

/-- The cells of a value that is held by value. -/
theorem cut_part {T : TypeId} {ti : TI} (hT : Ty P T ti) {cs : List MV} {off : Nat} {K : MV → Prop} (h : cutC ti cs off K) (us : List Value) (hl : us.length = cs.length)
    (h1 : ∀ u ∈ us, u.oneCell' = true) (hr : ∀ (i : Nat) (c : MV) (v : Value), cs[i]? = some c → us[i]? = some v → Rep γ ω w c v) :
    ∃ m v, (part T us.toArray off).run P w = .ok v w ∧ Rep γ ω w m v ∧ K m := by
  unfold cutC at h
  split at h
  · rename_i hag
    obtain ⟨hle, h⟩ := h
    refine ⟨_, .agg (us.toArray.extract off (off + ti.size)), by simp [part, run_isAggT hT, hag, run_sizeT hT], ?_, h⟩
    have e : us.toArray.extract off (off + ti.size) = ((us.drop off).take ti.size).toArray := by
      simp [List.extract_eq_take_drop]
    rw [e]
    refine .agg _ _ (by simp; omega) ?_ ?_
    · intro i c v hc1 hv1
      rw [List.getElem?_take] at hc1 hv1
      split at hc1
      · rename_i hlt
        rw [if_pos hlt, List.getElem?_drop] at hv1
        rw [List.getElem?_drop] at hc1
        exact hr _ c v hc1 hv1
      · simp at hc1
    · intro v hv
      exact h1 v (List.mem_of_mem_drop (List.mem_of_mem_take hv))
  · rename_i hag
    have hag' : aggKd ti.kd = false := by simpa using hag
    split at h
    · rename_i c hcc
      have hlt : off < us.length := by rw [hl]; exact (List.getElem?_eq_some_iff.1 hcc).1
      refine ⟨c, us[off], ?_, hr off c _ hcc (List.getElem?_eq_getElem hlt), h⟩
      simp [part, run_isAggT hT, hag', List.getElem?_eq_getElem hlt]
    · exact h.elim

theorem field_ok (h : Rel γ ω w nt st a) {T : TypeId} {x : Operand} {f : Nat} (hx : fieldP P st T x f (fun m => K (.sh m))) : Gives P γ ω w st a.tmps (Instr.field T (a.eval x) f) K := by
  unfold fieldP at hx
  split at hx
  · rename_i o fT hf
    split at hx
    · rename_i ti hti
      split at hx
      · rename_i cs hcs
        have hr := (h.val hcs).agg
        generalize a.eval x = v at hr ⊢
        cases hr with
        | agg _ us hl hrep h1 =>
          obtain ⟨m, v, r1, r2, r3⟩ := cut_part (γ := γ) (ω := ω) (ty_of hti) hx us hl h1 hrep
          obtain ⟨as, hu, fd, hfd, ho, hT⟩ := field_desc hf
          subst hT; subst ho
          refine .sh (v := v) ?_ r2 r3
          have hag : ∀ xs : Array Value, (asAgg (.agg xs)).run P w = .ok xs w := fun xs => by simp [asAgg]
          simp [Instr.field, run_underlying hu, hfd, hag, r1]
      · exact hx.elim
    · exact hx.elim
  · exact hx.elim

theorem run_asIntOf {k : IntKind} {n : Int} : (asIntOf (.int k n)).run P w = .ok (k, n) w := by simp [asIntOf]

theorem own_some {o : Owner} {sz : Nat} {es : List (List MV)} {v : Value} (h : OwnRep γ ω w o sz (.list es) v) (hl : 0 < es.length) : ∃ blk cap, v.ownBlock = some blk ∧ v = .slice (some ⟨blk, 0, none⟩) es.length cap := by
  cases h with
  | list _ _ e xs hr hc ho =>
    rcases hr.2 with ⟨_, h0⟩ | ⟨g, cap, cur, rfl, _⟩
    · omega
    · exact ⟨g, cap, rfl, rfl⟩

theorem ia_ok (h : Rel γ ω w nt st a) {T : TypeId} {x i : Operand} (hx : iaP P st T x i K) : Gives P γ ω w st a.tmps (Instr.indexAt T (a.eval x) (a.eval i)) K := by
  unfold iaP at hx
  split at hx
  · rename_i eT hk
    obtain ⟨d, hd, hkd⟩ := und_of_kd hk (by simp)
    have := tk_slice hkd; subst this
    split at hx
    · rename_i k n hn
      obtain ⟨h0, hz, hx⟩ := hx
      have ei := (h.val hn).int
      have key : ∀ (blk o len cap : Nat), n < (len : Int) → szOf P eT ≠ 0 → (Instr.indexAt T (.slice (some ⟨blk, o, none⟩) len cap) (a.eval i)).run P w = .ok (.pointer (some ⟨blk, o + n.toNat * szOf P eT, none⟩)) w := by
        intro blk o len cap hlt hs
        obtain ⟨ti, hti, hsz⟩ := szOf_ne hs
        rw [ei]
        have hc : (0 ≤ n ∧ n < (len : Int)) := ⟨h0, hlt⟩
        simp [Instr.indexAt, run_asIntOf, run_underlying hd, hc, run_sizeT (ty_of hti), Addr.add_lit, hsz]
      cases x with
      | tmp t =>
        simp only at hx
        split at hx
        · rename_i es hc
          obtain ⟨e, he, hl, hx⟩ := hx
          have hr := slot_rep h t hc
          generalize a.eval (.tmp t) = v at hr ⊢
          have hlt : n.toNat < es.length := (List.getElem?_eq_some_iff.1 he).1
          cases hr with
          | list _ sz blk o cap us hcap hω hltb hsz hcell hrep =>
            have hsze := hsz e (List.mem_of_getElem? he)
            refine .sh (m := .cptr e 0) (key blk o es.length cap (by omega) hz) ?_ hx
            rw [show o + n.toNat * szOf P eT = o + n.toNat * szOf P eT + 0 from rfl]
            refine .cptr e 0 blk (o + n.toNat * szOf P eT) (us n.toNat) hω hltb ?_ (fun j c hj => hrep _ e he j c hj)
            intro j c hj
            have := hcell _ e he j c hj
            rw [← hl, hsze, Nat.add_assoc]; exact this
          | list0 A cap => simp at hlt
        · rename_i p hc
          have hr := slot_rep h t hc
          generalize a.eval (.tmp t) = v at hr ⊢
          obtain ⟨⟨sz0, m0, h1⟩, h2⟩ := hr
          simp only [h1] at hx
          split at hx
          · rename_i sz es heq
            injection heq with e1 e2; subst e1; subst e2
            obtain ⟨hlt, hs, hx⟩ := hx
            obtain ⟨blk, cap, hvb, rfl⟩ := own_some (cur_own h h1 h2) (by omega)
            refine ⟨.eadr p n.toNat 0, _, key blk 0 es.length cap (by omega) hz, fun _ => ⟨sz0, es, _, blk, h1, hlt, h2, hvb, by rw [hs]; simp⟩, hx⟩
          · exact hx.elim
        · rename_i sz es hc
          have hr := slot_rep h t hc
          obtain ⟨hlt, hs, hx⟩ := hx
          obtain ⟨blk, cap, hvb, hve⟩ := own_some hr (by omega)
          refine ⟨.eadr (.slot t) n.toNat 0, .pointer (some ⟨blk, 0 + n.toNat * szOf P eT, none⟩), ?_, fun _ => ⟨sz, es, a.eval (.tmp t), blk, hc, hlt, rfl, hvb, by rw [hs]; simp⟩, hx⟩
          rw [hve]
          exact key blk 0 es.length cap (by omega) hz
        · exact hx.elim
      | const v => simp at hx
      | func f => simp at hx
      | global g => simp at hx
    · exact hx.elim
  · exact hx.elim

end
end Go.Pv

end M6
section M7
/- A library of this session: indexes, slices, lengths; all operations that change nothing. -/
set_option linter.unusedVariables false
set_option linter.unusedSimpArgs false
namespace Go.Pv
section
variable {P : Program} {γ : List Nat} {ω : Own} {w : World} {nt : Nat} {st : St} {a : Act} {K : Ct → Prop}

theorem bAt_get (s : ByteArray) (i : Nat) (h : i < s.size) : s[i]? = some s[i] ∧ bAt s i = ((s[i]).toNat : Int) := by
  refine ⟨by simp [h], ?_⟩
  unfold bAt
  have : s.data.getD i 0 = s[i] := by
    rw [Array.getD_eq_getD_getElem?, Array.getElem?_eq_getElem (by simpa using h)]; rfl
  rw [this]

theorem idx_ok (h : Rel γ ω w nt st a) {T : TypeId} {x i : Operand} (hx : idxP P st T x i (fun m => K (.sh m))) : Gives P γ ω w st a.tmps (Instr.index T (a.eval x) (a.eval i)) K := by
  unfold idxP at hx
  split at hx
  · rename_i hk
    obtain ⟨d, hd, hkd⟩ := und_of_kd hk (by simp)
    have := tk_str hkd; subst this
    split at hx
    · rename_i s k n hs hn
      obtain ⟨h0, hlt, hx⟩ := hx
      have e1 := (h.val hs).str
      have e2 := (h.val hn).int
      rw [e1, e2]
      obtain ⟨g1, g2⟩ := bAt_get s n.toNat hlt
      refine .sh (v := .int .u8 (bAt s n.toNat)) ?_ (.int _ _) hx
      simp [Instr.index, run_asIntOf, run_underlying hd, h0, g1, g2]
    · exact hx.elim
  · exact hx.elim

theorem bnd_ok (h : Rel γ ω w nt st a) {d : Nat} {x : Option Operand} {n : Int} (hx : bndOf st d x = some n) : (x = none ∧ n = d) ∨ ∃ y k, x = some y ∧ a.eval y = .int k n := by
  cases x with
  | none => simp [bndOf] at hx; exact .inl ⟨rfl, hx.symm⟩
  | some y =>
    simp only [bndOf] at hx
    split at hx
    · rename_i k m hm
      injection hx with hx; subst hx
      exact .inr ⟨y, k, rfl, (h.val hm).int⟩
    · exact absurd hx (by simp)

theorem run_bounds (h : Rel γ ω w nt st a) (isS : Bool) (len cap : Nat) (hlc : len ≤ cap) {lo hi : Option Operand} {l u : Int} (hl : bndOf st 0 lo = some l) (hu : bndOf st len hi = some u) (h0 : 0 ≤ l) (h1 : l ≤ u) (h2 : u ≤ (len : Int)) :
    (Instr.sliceBounds isS len cap (lo.map a.eval) (hi.map a.eval) none).run P w = .ok (l.toNat, u.toNat, cap) w := by
  have key : ∀ (k : IntKind) (n : Int) (y : Nat) (c : BoundsCode), 0 ≤ n → n ≤ (y : Int) → (Instr.sliceBound (.int k n) y c).run P w = .ok n.toNat w := by
    intro k n y c g1 g2
    have : 0 ≤ n ∧ n ≤ (y : Int) := ⟨g1, g2⟩
    simp [Instr.sliceBound, run_asIntOf, this]
  have hul : u ≤ (cap : Int) := by omega
  have hlu : l ≤ (u.toNat : Int) := by omega
  rcases bnd_ok h hl with ⟨rfl, rfl⟩ | ⟨y, k, rfl, hy⟩ <;> rcases bnd_ok h hu with ⟨rfl, rfl⟩ | ⟨z, k', rfl, hz⟩
  · simp [Instr.sliceBounds]
  · simp [Instr.sliceBounds, hz, key k' u cap _ (by omega) hul]
  · simp [Instr.sliceBounds, hy, key k l len _ h0 (by omega)]
  · simp [Instr.sliceBounds, hy, hz, key k' u cap _ (by omega) hul, key k l u.toNat _ h0 hlu]

theorem slice_ok (h : Rel γ ω w nt st a) {T : TypeId} {x : Operand} {lo hi : Option Operand} (hx : sliceP P st T x lo hi (fun m => K (.sh m))) : Gives P γ ω w st a.tmps (Instr.sliceAt T (a.eval x) (lo.map a.eval) (hi.map a.eval) none) K := by
  unfold sliceP at hx
  split at hx
  · rename_i hk
    obtain ⟨d, hd, hkd⟩ := und_of_kd hk (by simp)
    have := tk_str hkd; subst this
    split at hx
    · rename_i s hs
      have e1 := (h.val hs).str
      split at hx
      · rename_i l u hl hu
        obtain ⟨h0, h1, h2, hx⟩ := hx
        rw [e1]
        have hb := run_bounds (P := P) h false s.size s.size (Nat.le_refl _) hl hu h0 h1 h2
        refine .sh (v := .string (s.extract l.toNat u.toNat)) ?_ (.str _) hx
        simp [Instr.sliceAt, Instr.slice, run_underlying hd, hb]
      · exact hx.elim
    · exact hx.elim
  · rename_i eT hk
    obtain ⟨d, hd, hkd⟩ := und_of_kd hk (by simp)
    have := tk_slice hkd; subst this
    cases x with
    | tmp t =>
      simp only at hx
      split at hx
      · rename_i es hc
        split at hx
        · rename_i l u hl hu
          obtain ⟨h0, h1, h2, hz, hx⟩ := hx
          obtain ⟨tie, htie, hsze⟩ := szOf_ne hz.2
          have hr := slot_rep h t hc
          generalize a.eval (.tmp t) = v at hr ⊢
          cases hr with
          | list _ sz blk o cap us hcap hω hltb hsz hcell hrep =>
            have hb := run_bounds (P := P) h true es.length cap hcap hl hu h0 h1 h2
            have hrun : (Instr.sliceAt T (.slice (some ⟨blk, o, none⟩) es.length cap) (lo.map a.eval) (hi.map a.eval) none).run P w =
                .ok (.slice (if cap = l.toNat then some ⟨blk, o, none⟩ else some ⟨blk, o + l.toNat * tie.size, none⟩) (u.toNat - l.toNat) (cap - l.toNat)) w := by
              simp [Instr.sliceAt, Instr.slice, run_underlying hd, hb, run_sizeT (ty_of htie), Addr.add_lit]
            refine .sh hrun ?_ hx
            have hlen : ((es.drop l.toNat).take (u.toNat - l.toNat)).length = u.toNat - l.toNat := by simp; omega
            by_cases he : u.toNat - l.toNat = 0
            · have hnil : (es.drop l.toNat).take (u.toNat - l.toNat) = [] := by rw [he]; rfl
              rw [hnil, he]
              exact .list0 _ _
            · have hcl : cap ≠ l.toNat := by omega
              rw [if_neg hcl]
              have hlt : l.toNat < es.length := by omega
              have hszt : sz = tie.size := by
                rw [hsze, ← hz.1 _ (List.getElem?_eq_getElem hlt)]
                exact (hsz _ (List.getElem_mem hlt)).symm
              have := Rep.list (γ := γ) (ω := ω) (w := w) ((es.drop l.toNat).take (u.toNat - l.toNat)) sz blk (o + l.toNat * tie.size) (cap - l.toNat) (fun j i => us (l.toNat + j) i) (by rw [hlen]; omega) hω hltb
                (fun e he => hsz e (List.mem_of_mem_drop (List.mem_of_mem_take he)))
                (fun j e hj i c hi => by
                  rw [List.getElem?_take] at hj
                  split at hj
                  · rw [List.getElem?_drop] at hj
                    have := hcell _ e hj i c hi
                    rw [← hszt, show o + l.toNat * sz + (j * sz + i) = o + ((l.toNat + j) * sz + i) from by rw [Nat.add_mul]; omega]
                    exact this
                  · simp at hj)
                (fun j e hj i c hi => by
                  rw [List.getElem?_take] at hj
                  split at hj
                  · rw [List.getElem?_drop] at hj
                    exact hrep _ e hj i c hi
                  · simp at hj)
              rw [hlen] at this
              exact this
          | list0 A cap =>
            have hb := run_bounds (P := P) h true 0 cap (by omega) hl hu h0 h1 h2
            have h2' : u ≤ 0 := h2
            have hl0 : l.toNat = 0 := by omega
            have hu0 : u.toNat = 0 := by omega
            have hrun : ∃ A', (Instr.sliceAt T (.slice A 0 cap) (lo.map a.eval) (hi.map a.eval) none).run P w = .ok (.slice A' 0 cap) w := by
              refine ⟨if cap = 0 then A else A.map (·.add 0), ?_⟩
              simp [Instr.sliceAt, Instr.slice, run_underlying hd, hb, run_sizeT (ty_of htie), hl0, hu0]
            obtain ⟨A', hrun⟩ := hrun
            refine .sh hrun ?_ hx
            simp
            exact .list0 _ _
        · exact hx.elim
      · exact hx.elim
    | const v => simp at hx
    | func f => simp at hx
    | global g => simp at hx
  · exact hx.elim

theorem ptr_of {m : MV} {v : Value} (h : Rep γ ω w m v) (hm : (∃ k o, m = .ptr k o) ∨ ∃ cs o, m = .cptr cs o) : ∃ b, v = .pointer (some b) := by
  rcases hm with ⟨k, o, rfl⟩ | ⟨cs, o, rfl⟩ <;> cases h <;> exact ⟨_, rfl⟩

theorem nc_ok (h : Rel γ ω w nt st a) {x : Operand} (hx : ncP st x K) (o : Oper) (ho : o.op = .nilCheck x) : ∃ c, (execOp a.eval o).run P w = .ok (.value (a.eval x)) w ∧ (∀ o', CtRep γ ω w st a.tmps o' c (a.eval x)) ∧ K c := by
  cases x with
  | tmp t =>
    simp only [ncP] at hx
    split at hx
    · rename_i k off hc
      have hr := slot_rep h t hc
      refine ⟨.sh (.ptr k off), ?_, fun _ => hr, hx⟩
      obtain ⟨b, hv⟩ := ptr_of hr (.inl ⟨_, _, rfl⟩)
      simp only [execOp, ho, hv]; rfl
    · rename_i cs off hc
      have hr := slot_rep h t hc
      refine ⟨.sh (.cptr cs off), ?_, fun _ => hr, hx⟩
      obtain ⟨b, hv⟩ := ptr_of hr (.inr ⟨_, _, rfl⟩)
      simp only [execOp, ho, hv]; rfl
    · rename_i f cs hc
      have hr := slot_rep h t hc
      refine ⟨.sh (.fn f cs), ?_, fun _ => hr, hx⟩
      have hv : ∃ vs, a.eval (.tmp t) = .func (.func f) #[] vs := by
        generalize a.eval (.tmp t) = v at hr
        cases hr; exact ⟨_, rfl⟩
      obtain ⟨vs, hv⟩ := hv
      simp only [execOp, ho, hv]; rfl
    · rename_i p i off hc
      have hr := slot_rep h t hc
      refine ⟨.eadr p i off, ?_, fun _ => hr, hx⟩
      obtain ⟨sz, es, u, blk, h1, h2, h3, h4, hv⟩ := hr
      simp only [execOp, ho, hv]; rfl
    · exact hx.elim
  | const v => simp [ncP] at hx
  | func f => simp only [ncP] at hx; exact ⟨.sh (.fn f []), by simp only [execOp, ho, Act.eval]; rfl, fun _ => Rep.fn f [] [] rfl (by simp), hx⟩
  | global g => simp [ncP] at hx

theorem Val.map {m : List (MKey × MV)} {v : Value} (h : Val γ ω w (.map m) v) : (m = [] ∧ v = .map none) ∨ ∃ blk es clock, v = .map (some blk) ∧ w.heap[blk]? = some (.map es.toArray clock) ∧ Entries γ ω w m es clock := by
  rcases h with h | ⟨o, sz, h⟩
  · cases h with
    | map _ blk es clock hω hb hl hk hv hlt hbn hnd => exact .inr ⟨blk, es, clock, rfl, hb, ⟨hl, hk, hv, hbn, hnd⟩⟩
    | map0 => exact .inl ⟨rfl, rfl⟩
  · cases h with
    | map _ blk es clock ho hlt hb he => exact .inr ⟨blk, es, clock, rfl, hb, he⟩

theorem len_ok {T : TypeId} {m : MV} {v : Value} (hv : Val γ ω w m v) {K : MV → Prop} (h : lenP P T m K) (ty : TypeId) (as : Array TypeId) (has : as[0]? = some T) :
    ∃ m' v', (Builtin.len_ as ty #[v]).run P w = .ok v' w ∧ Rep γ ω w m' v' ∧ K m' := by
  unfold lenP at h
  split at h
  · rename_i s hk
    obtain ⟨d, hd, hkd⟩ := und_of_kd hk (by simp)
    have := tk_str hkd; subst this
    have e := hv.str; subst e
    exact ⟨_, _, by simp [Builtin.len_, has, run_underlying hd, goInt], .int _ _, h⟩
  · rename_i e es hk
    obtain ⟨d, hd, hkd⟩ := und_of_kd hk (by simp)
    have := tk_slice hkd; subst this
    obtain ⟨A, cap, rfl⟩ := hv.list
    exact ⟨_, _, by simp [Builtin.len_, has, run_underlying hd, goInt], .int _ _, h⟩
  · rename_i k e m hk
    obtain ⟨d, hd, hkd⟩ := und_of_kd hk (by simp)
    have := tk_map hkd; subst this
    rcases hv.map with ⟨rfl, rfl⟩ | ⟨blk, es, clock, rfl, hb, he⟩
    · exact ⟨_, _, by simp [Builtin.len_, has, run_underlying hd, goInt], .int _ _, h⟩
    · refine ⟨_, .int .i64 m.length, ?_, .int _ _, h⟩
      simp [Builtin.len_, has, run_underlying hd, goInt, getObj, Sem.run, hb, he.len]
  · exact h.elim

theorem mm_ok (mx : Bool) {ms : List MV} {vs : List Value} (hl : vs.length = ms.length) (hv : ∀ (i : Nat) (c : MV) (v : Value), ms[i]? = some c → vs[i]? = some v → Val γ ω w c v) {K : MV → Prop} (h : mmP mx ms K) (ty : TypeId) (as : Array TypeId) :
    ∃ m' v', (if mx then Builtin.max_ as ty vs.toArray else Builtin.min_ as ty vs.toArray).run P w = .ok v' w ∧ Rep γ ω w m' v' ∧ K m' := by
  unfold mmP at h
  split at h
  · rename_i k x k' y
    match vs, hl with
    | [u, v], _ =>
      have e1 := (hv 0 _ u rfl rfl).int
      have e2 := (hv 1 _ v rfl rfl).int
      subst e1; subst e2
      refine ⟨_, _, ?_, .int _ _, h⟩
      cases mx <;> simp [Builtin.max_, Builtin.min_, Builtin.max2, Builtin.min2, mm2, List.foldlM]
  · rename_i k x k' y k'' z
    match vs, hl with
    | [u, v, t], _ =>
      have e1 := (hv 0 _ u rfl rfl).int
      have e2 := (hv 1 _ v rfl rfl).int
      have e3 := (hv 2 _ t rfl rfl).int
      subst e1; subst e2; subst e3
      refine ⟨_, _, ?_, .int _ _, h⟩
      cases mx <;> simp [Builtin.max_, Builtin.min_, Builtin.max2, Builtin.min2, mm2, List.foldlM]
  · exact h.elim

theorem noNilIface {m : MV} {v : Value} (h : Val γ ω w m v) (hm : ∀ e, m ≠ e ∨ True) : v = .nilIface → m = .nilifc := by
  intro e
  subst e
  rcases h with h | ⟨_, _, h⟩
  · generalize hv : Value.nilIface = v at h
    cases h <;> first | rfl | exact absurd hv (by simp)
  · generalize hv : Value.nilIface = v at h
    cases h with
    | list _ _ e xs hr hc ho => subst hv; rcases hr.2 with ⟨h1, _⟩ | ⟨g, cap, cur, h1, _⟩ <;> exact absurd h1 (by simp)
    | map => exact absurd hv (by simp)

/-- ALL OPERATIONS THAT CHANGE NOTHING. -/
theorem pure_ok (h : Rel γ ω w nt st a) {o : Oper} (hx : pureP P st o.op K) : ∃ c v, (execOp a.eval o).run P w = .ok (.value v) w ∧ (∀ o', CtRep γ ω w st a.tmps o' c v) ∧ K c := by
  have fin : ∀ {s : Sem Value}, Gives P γ ω w st a.tmps s K → (∀ v, s.run P w = .ok v w → (execOp a.eval o).run P w = .ok (.value v) w) → ∃ c v, (execOp a.eval o).run P w = .ok (.value v) w ∧ (∀ o', CtRep γ ω w st a.tmps o' c v) ∧ K c := by
    rintro s ⟨c, v, h1, h2, h3⟩ hs
    exact ⟨c, v, hs v h1, h2, h3⟩
  obtain ⟨dst, op, ty, pos, after, guard⟩ := o
  cases op with
  | move x => obtain ⟨c, h1, h2⟩ := mov_ok h hx; exact ⟨c, _, by simp [execOp], h1, h2⟩
  | binOp op T x y yT =>
    simp only [pureP, binE] at hx
    split at hx
    · rename_i hnil
      have hy : a.eval y = .slice none 0 0 := by
        unfold isNilC at hnil
        split at hnil
        · rfl
        · exact absurd hnil (by simp)
      split at hx
      · rename_i b hb
        have hxv : (b = true ∧ a.eval x = .slice none 0 0) ∨ (b = false ∧ ∃ ad n c, a.eval x = .slice (some ad) n c) := by
          cases x with
          | tmp t =>
            simp only [nilness] at hb
            split at hb
            · rename_i hc
              injection hb with hb
              have hr : Rep γ ω w .nil (a.eval (.tmp t)) := slot_rep h t hc
              generalize a.eval (.tmp t) = v at hr ⊢
              cases hr; exact .inl ⟨hb.symm, rfl⟩
            · rename_i e es hc
              injection hb with hb
              have hr : Rep γ ω w (.list (e :: es)) (a.eval (.tmp t)) := slot_rep h t hc
              generalize a.eval (.tmp t) = v at hr ⊢
              cases hr; exact .inr ⟨hb.symm, _, _, _, rfl⟩
            · rename_i sz e es hc
              injection hb with hb
              have hr : OwnRep γ ω w _ _ _ (a.eval (.tmp t)) := slot_rep h t hc
              obtain ⟨blk, cap, _, hv⟩ := own_some hr (by simp)
              exact .inr ⟨hb.symm, _, _, _, hv⟩
            · rename_i p hc
              split at hb
              · rename_i sz e es hat
                injection hb with hb
                have hr := slot_rep h t hc
                obtain ⟨_, h2⟩ := hr
                obtain ⟨blk, cap, _, hv⟩ := own_some (cur_own h hat h2) (by simp)
                exact .inr ⟨hb.symm, _, _, _, hv⟩
              · exact absurd hb (by simp)
            · exact absurd hb (by simp)
          | _ => simp [nilness] at hb
        have hrun : ∀ T, (∃ e, kdOf P T = .slice e) → (Op.equal T (a.eval x) (.slice none 0 0)).run P w = .ok b w := by
          rintro T ⟨e, he⟩
          rcases hxv with ⟨rfl, hv⟩ | ⟨rfl, ad, n, c, hv⟩
          · rw [hv]; exact run_eqlNil he
          · rw [hv]; exact run_eqlSlice he
        have hg : (eqGuard op T x y (a.eval x) (.slice none 0 0)).run P w = .ok () w := by
          rcases hxv with ⟨_, hv⟩ | ⟨_, ad, n, c, hv⟩ <;> rw [hv] <;> exact eqGuard_int (by simp) (by simp)
        have hbin : ∀ (v : Value), (op = .eql ∧ v = .bool b) ∨ (op = .neq ∧ v = .bool !b) → (∃ e, kdOf P T = .slice e) → (binOp op T (a.eval x) (.slice none 0 0)).run P w = .ok v w := by
          intro v hv hk
          have := hrun T hk
          rcases hxv with ⟨_, e⟩ | ⟨_, ad, n, c, e⟩ <;> rw [e] at this ⊢ <;> rcases hv with ⟨rfl, rfl⟩ | ⟨rfl, rfl⟩ <;> simp [binOp, this]
        split at hx
        · refine ⟨.sh (.bool b), .bool b, ?_, fun _ => Rep.bool _, hx.2⟩
          simp [execOp, hy, hg, hbin (.bool b) (.inl ⟨rfl, rfl⟩) hx.1]
        · refine ⟨.sh (.bool !b), .bool !b, ?_, fun _ => Rep.bool _, hx.2⟩
          simp [execOp, hy, hg, hbin (.bool !b) (.inr ⟨rfl, rfl⟩) hx.1]
        · exact hx.elim
      · exact hx.elim
    · split at hx
      · rename_i m1 m2 e1 e2
        obtain ⟨hn, hx⟩ := hx
        refine fin (s := do eqGuard op T x y (a.eval x) (a.eval y); binOp op T (a.eval x) (a.eval y)) (Gives.of_sh ?_) (fun v hv => by simp only [execOp, Sem.run_bind] at hv ⊢; rw [hv]; rfl)
        exact binP_run (h.val e1) (h.val e2) hx x y (fun e => by
          have := noNilIface (h.val e1) (fun _ => .inr trivial) e
          subst this
          have hn' := hn rfl
          cases y <;> simp at hn'
          exact ⟨_, rfl⟩)
      · exact hx.elim
  | pick c x y =>
    simp only [pureP] at hx
    split at hx
    · rename_i b e
      have hc := (h.val e).bool
      split at hx
      · rename_i hb
        subst hb
        split at hx
        · rename_i m hm
          exact ⟨.sh m, a.eval x, by simp [execOp, hc, asBool], fun _ => shv_rep h hm, hx⟩
        · exact hx.elim
      · rename_i hb
        have hb' : b = false := by simpa using hb
        subst hb'
        split at hx
        · rename_i m hm
          exact ⟨.sh m, a.eval y, by simp [execOp, hc, asBool], fun _ => shv_rep h hm, hx⟩
        · exact hx.elim
    · exact hx.elim
  | unOp op T x =>
    simp only [pureP] at hx
    split at hx
    · rename_i m e
      exact fin (Gives.of_sh (un_ok (h.val e) hx)) (fun v hv => by simp [execOp, hv])
    · exact hx.elim
  | convert s d x =>
    simp only [pureP] at hx
    split at hx
    · rename_i m e
      exact fin (Gives.of_sh (conv_ok (h.val e) hx)) (fun v hv => by simp [execOp, hv])
    · exact hx.elim
  | extract x i => exact fin (ext_ok h hx) (fun v hv => by simp [execOp, hv])
  | load T x => exact fin (load_ok h hx) (fun v hv => by simp [execOp, hv])
  | fieldAddr T x f => exact fin (fa_ok h hx) (fun v hv => by simp [execOp, hv])
  | field T x f => exact fin (field_ok h hx) (fun v hv => by simp [execOp, hv])
  | indexAddr T x i => exact fin (ia_ok h hx) (fun v hv => by simp [execOp, hv])
  | index T x i => exact fin (idx_ok h hx) (fun v hv => by simp [execOp, hv])
  | slice T x lo hi mx =>
    cases mx with
    | none => exact fin (slice_ok h hx) (fun v hv => by simp [execOp, hv])
    | some y => simp [pureP] at hx
  | nilCheck x =>
    obtain ⟨c, h1, h2, h3⟩ := nc_ok (P := P) h hx ⟨dst, .nilCheck x, ty, pos, after, guard⟩ rfl
    exact ⟨c, _, h1, h2, h3⟩
  | makeFunc fn fs cs =>
    cases fn with
    | func f =>
      simp only [pureP] at hx
      obtain ⟨hf, hx⟩ := hx
      split at hx
      · rename_i ms e
        obtain ⟨h1, h2⟩ := shvs_rep h e
        have hfs : fs = #[] := by simpa using hf
        subst hfs
        refine ⟨.sh (.fn f ms), .func (.func f) #[] (cs.toList.map a.eval).toArray, ?_, fun _ => Rep.fn f ms _ h1 h2, hx⟩
        have : cs.map a.eval = (cs.toList.map a.eval).toArray := Array.ext' (by simp)
        simp [execOp, Instr.makeFunc, this]
      · exact hx.elim
    | _ => simp [pureP] at hx
  | call c =>
    obtain ⟨callee, args, argTypes⟩ := c
    simp only [pureP] at hx
    split at hx
    · split at hx
      · rename_i x hargs
        have hargs' : args = #[x] := by
          have := congrArg List.toArray hargs
          simpa using this
        subst hargs'
        split at hx
        · rename_i m e
          obtain ⟨hx, hne⟩ := hx
          have has : argTypes[0]? = some (argTypes.getD 0 0) := by
            rw [Array.getD_eq_getD_getElem?]
            rw [Array.getElem?_eq_getElem (by omega)]; rfl
          refine fin (Gives.of_sh (len_ok (h.val e) hx ty argTypes has)) (fun v hv => by simp [execOp, resolve, invoke, builtin, hv])
        · exact hx.elim
      · exact hx.elim
    · split at hx
      · rename_i ms e
        obtain ⟨h1, h2⟩ := opvs_val h e
        have := mm_ok (P := P) false h1 h2 hx ty argTypes
        simp only [Bool.false_eq_true, if_false] at this
        refine fin (Gives.of_sh this) (fun v hv => ?_)
        have e' : args.map a.eval = (args.toList.map a.eval).toArray := Array.ext' (by simp)
        simp [execOp, resolve, invoke, builtin, e', hv]
      · exact hx.elim
    · split at hx
      · rename_i ms e
        obtain ⟨h1, h2⟩ := opvs_val h e
        have := mm_ok (P := P) true h1 h2 hx ty argTypes
        simp only [if_true] at this
        refine fin (Gives.of_sh this) (fun v hv => ?_)
        have e' : args.map a.eval = (args.toList.map a.eval).toArray := Array.ext' (by simp)
        simp [execOp, resolve, invoke, builtin, e', hv]
      · exact hx.elim
    · exact hx.elim
  | _ => simp [pureP] at hx

end
end Go.Pv

end M7
section M8
/- A library of this session: what is held is given up; slots are assigned. -/
set_option linter.unusedVariables false
set_option linter.unusedSimpArgs false
namespace Go.Pv

abbrev NotOuter : Owner → Prop := fun o => o ≠ .outer

/-- What an effect comes to. -/
def Does (P : Program) (nt : Nat) (γ : List Nat) (ω : Own) (w : World) (a : Act) (K : St → Prop) : Prop :=
  ∃ ω' st', Chg NotOuter γ ω w γ ω' w ∧ Rel γ ω' w nt st' a ∧ K st'

theorem own_to_rep {γ : List Nat} {ω ω' : Own} {w : World} {o : Owner} (hω : ∀ b, ω b = some o → ω' b = none) (hc : Chg (fun x => x = o) γ ω w γ ω' w) {sz : Nat} {m : MV} {v : Value} (h : OwnRep γ ω w o sz m v) : Rep γ ω' w m v := by
  cases h with
  | list es _ e xs hr hcl ho =>
    rcases hr.2 with ⟨rfl, h0⟩ | ⟨g, cap, cur, rfl, _⟩
    · have : es = [] := List.eq_nil_of_length_eq_zero h0
      subst this
      exact .list0 _ _
    · obtain ⟨cap', h1, h2, h3, us, hus⟩ := own_cells (.list sz es _ e xs hr hcl ho) (blk := g) rfl
      injection h1 with _ _ h1
      refine .list es sz g 0 cap us ?_ (hω g h2) h3 (fun e he => ?_) ?_ ?_
      · rcases hr.2 with ⟨h4, _⟩ | ⟨g', cap', cur', h4, _, _, h5, _⟩
        · exact absurd h4 (by simp)
        · injection h4 with _ _ h4; omega
      · obtain ⟨j, hj⟩ := List.getElem?_of_mem he
        exact (hus j e hj).1
      · intro j e hj i c hi
        rw [Nat.zero_add]
        exact ⟨((hus j e hj).2 i c hi).1, ((hus j e hj).2 i c hi).2.1⟩
      · intro j e hj i c hi
        exact ((hus j e hj).2 i c hi).2.2.chg hc
  | map m blk es clock ho hlt hb he =>
    exact .map m blk es clock (hω blk ho) hb he.len he.key (fun i x e hx hee => (he.val i x e hx hee).chg hc) hlt he.born he.nodup

def retC (p : Place) (m : MV) (c : Ct) : Ct :=
  match c with
  | .al q => if q = p then .sh m else .al q
  | .eadr q i o => if q = p then .dead else .eadr q i o
  | c => c

def retS (p : Place) (m : MV) (v : List (Nat × Ct)) : List (Nat × Ct) := v.map fun x => (x.1, retC p m x.2)

theorem lk_retS (p : Place) (m : MV) (v : List (Nat × Ct)) (s : Nat) : lk (retS p m v) s = retC p m (lk v s) := by
  induction v with
  | nil => simp [retS, lk, retC]
  | cons x r ih =>
    obtain ⟨k, c⟩ := x
    by_cases h : k = s
    · simp [retS, lk, h]
    · simp only [retS, List.map_cons, lk, h, if_false]
      exact ih

def setCt (B : List (Option (List Ct))) (k off : Nat) (c : Ct) : List (Option (List Ct)) :=
  match B[k]? with
  | some (some cs) => B.set k (some (cs.set off c))
  | _ => B

/-- A place gives up what it holds: it is shared from now on. -/
def St.retire (st : St) (p : Place) : St :=
  match st.at p with
  | .own _ m => match p with
    | .slot s => { st with v := pt (retS p m st.v) s (.sh m) }
    | .cell k off => { v := retS p m st.v, B := setCt st.B k off (.sh m) }
  | _ => st

theorem at_cell {st : St} {k off : Nat} {sz : Nat} {m : MV} (h : st.at (.cell k off) = .own sz m) : ∃ cs, st.B[k]? = some (some cs) ∧ cs[off]? = some (.own sz m) := by
  simp only [St.at] at h
  split at h
  · rename_i cs hk
    cases ho : cs[off]? with
    | none => rw [ho] at h; simp at h
    | some c => rw [ho] at h; simp at h; subst h; exact ⟨cs, hk, ho⟩
  · exact absurd h (by simp)

theorem CtRep.chg {T : Owner → Prop} {γ γ' : List Nat} {ω ω' : Own} {w w' : World} {st : St} {tmps : Array Value} (hc : Chg T γ ω w γ' ω' w') {o : Owner} (ht : ¬ T o) {c : Ct} {v : Value} (h : CtRep γ ω w st tmps o c v)
    (hp : ∀ p u, c.refs p = true → p.cur γ tmps w u → p.cur γ' tmps w' u) : CtRep γ' ω' w' st tmps o c v := by
  cases c with
  | sh m => exact Rep.chg hc h
  | own sz m => exact OwnRep.chg hc ht h
  | al p => exact ⟨h.1, hp p v (by simp [Ct.refs]) h.2⟩
  | eadr p i off =>
    obtain ⟨sz, es, u, blk, h1, h2, h3, h4, h5⟩ := h
    exact ⟨sz, es, u, blk, h1, h2, hp p u (by simp [Ct.refs]) h3, h4, h5⟩
  | tupc cs =>
    obtain ⟨vs, h1, h2, h3⟩ := h
    refine ⟨vs, h1, h2, fun i c u hi hu => ?_⟩
    have := h3 i c u hi hu
    obtain ⟨c1, c2⟩ := c
    cases c1 with
    | none => exact Rep.chg hc this
    | some sz => exact OwnRep.chg hc ht this
  | siter s pos =>
    obtain ⟨blk, h1, h2, h3, h4⟩ := h
    obtain ⟨e1, e2⟩ := hc.keep blk o h3 h2 ht
    exact ⟨blk, h1, e2, Nat.lt_of_lt_of_le h3 hc.size, e1.trans h4⟩
  | dead => trivial

/-- The world has grown; nobody's things have turned. -/
theorem Rel.grow {γ : List Nat} {ω ω' : Own} {w w' : World} {nt : Nat} {st : St} {a : Act} (h : Rel γ ω w nt st a) (hc : Chg (fun _ => False) γ ω w γ ω' w') (hlt : ∀ b, w'.heap.size ≤ b → ω' b = none) : Rel γ ω' w' nt st a :=
  ⟨h.size, h.defers, hlt, h.boxes.chg hc rfl (fun _ h => h) (fun _ _ h => h), fun s => (h.slots s).chg hc (fun h => h) (fun p u _ hu => by
    cases p with
    | slot s => exact hu
    | cell k off =>
      obtain ⟨blk, h1, h2⟩ := hu
      refine ⟨blk, h1, ?_⟩
      have hlt : blk < w.heap.size := World.block_lt_of_cell? w _ h2
      cases hω : ω blk with
      | none => rw [cell_of_heap (hc.none blk hlt hω).1]; exact h2
      | some o => rw [cell_of_heap (hc.keep blk o hlt hω (fun h => h)).1]; exact h2)⟩

theorem Rel.retire {γ : List Nat} {ω : Own} {w : World} {nt : Nat} {st : St} {a : Act} (h : Rel γ ω w nt st a) (p : Place) :
    ∃ ω', Chg NotOuter γ ω w γ ω' w ∧ Rel γ ω' w nt (st.retire p) a := by
  unfold St.retire
  split
  · rename_i sz m hat
    let ω' : Own := fun b => if ω b = some p.owner then none else ω b
    have hc : Chg (fun x => x = p.owner) γ ω w γ ω' w := by
      refine ⟨rfl, rfl, rfl, Nat.le_refl _, fun _ _ h => h, fun b _ h0 => ⟨rfl, by simp [ω', h0]⟩, fun b o _ h0 hn => ⟨rfl, ?_⟩⟩
      simp only [ω', h0]
      rw [if_neg (by simpa using hn)]
    have hne : p.owner ≠ .outer := by cases p <;> simp [Place.owner]
    have hω : ∀ b, ω b = some p.owner → ω' b = none := fun b hb => by simp [ω', hb]
    have hcN : Chg NotOuter γ ω w γ ω' w := hc.mono (fun o ho => by rw [ho]; exact hne)
    have hlt : ∀ b, w.heap.size ≤ b → ω' b = none := fun b hb => by simp [ω', h.lt b hb]
    -- slots that are not the place itself
    have hslot : ∀ (st' : St) (s : Nat), (Place.slot s ≠ p) → (∀ (q : Place) (sz' : Nat) (m' : MV), q ≠ p → st.at q = .own sz' m' → st'.at q = .own sz' m') → CtRep γ ω' w st' a.tmps (.slot s) (retC p m (lk st.v s)) (a.tmps.getD s undef) := by
      intro st' s hs hkeep
      have hold := h.slots s
      have hto : ¬ (Owner.slot s = p.owner) := by
        intro e
        cases p with
        | slot s' => simp [Place.owner] at e; exact hs (by rw [e])
        | cell k o => simp [Place.owner] at e
      cases hcs : lk st.v s with
      | al q =>
        rw [hcs] at hold
        by_cases hq : q = p
        · subst hq
          simp only [retC, if_true]
          exact own_to_rep hω hc (cur_own h hat hold.2)
        · simp only [retC, if_neg hq]
          obtain ⟨⟨sz', m', h1⟩, h2⟩ := hold
          exact ⟨⟨sz', m', hkeep q sz' m' hq h1⟩, h2⟩
      | eadr q i off =>
        rw [hcs] at hold
        by_cases hq : q = p
        · simp only [retC, if_pos hq]; trivial
        · simp only [retC, if_neg hq]
          obtain ⟨sz', es, u, blk, h1, h2, h3, h4, h5⟩ := hold
          exact ⟨sz', es, u, blk, hkeep q sz' _ hq h1, h2, h3, h4, h5⟩
      | sh m' => rw [hcs] at hold; exact Rep.chg hc hold
      | own sz' m' => rw [hcs] at hold; exact OwnRep.chg hc hto hold
      | tupc cs => rw [hcs] at hold; exact CtRep.chg (st := st') hc hto hold (fun q u _ hu => hu)
      | siter s' pos => rw [hcs] at hold; exact CtRep.chg (st := st') hc hto hold (fun q u _ hu => hu)
      | dead => trivial
    cases p with
    | slot s0 =>
      refine ⟨ω', hcN, h.size, h.defers, hlt, ?_, fun s => ?_⟩
      · exact h.boxes.chg hc rfl (fun k e => by simp [Place.owner] at e) (fun k i e => by simp [Place.owner] at e)
      · show CtRep γ ω' w _ a.tmps (.slot s) (lk (pt _ s0 _) s) _
        rw [lk_pt]
        by_cases hs : s0 = s
        · subst hs
          rw [if_pos rfl]
          exact own_to_rep hω hc (cur_own h hat rfl)
        · rw [if_neg hs, lk_retS]
          refine hslot _ s (fun e => hs (by injection e with e; exact e.symm)) (fun q sz' m' hq hqat => ?_)
          cases q with
          | slot s1 =>
            have hs1 : s0 ≠ s1 := fun e => hq (by rw [e])
            simp only [St.at] at hqat ⊢
            rw [lk_pt, if_neg hs1, lk_retS, hqat]; rfl
          | cell k o => exact hqat
    | cell k0 o0 =>
      obtain ⟨cs0, hk0, ho0⟩ := at_cell hat
      have hB : setCt st.B k0 o0 (.sh m) = st.B.set k0 (some (cs0.set o0 (.sh m))) := by simp [setCt, hk0]
      have hlt0 : o0 < cs0.length := (List.getElem?_eq_some_iff.1 ho0).1
      have hkeep : ∀ (q : Place) (sz' : Nat) (m' : MV), q ≠ .cell k0 o0 → st.at q = .own sz' m' → ({ v := retS (.cell k0 o0) m st.v, B := setCt st.B k0 o0 (.sh m) } : St).at q = .own sz' m' := by
        intro q sz' m' hq hqat
        cases q with
        | slot s1 => simp only [St.at] at hqat ⊢; rw [lk_retS, hqat]; rfl
        | cell k o =>
          obtain ⟨cs, hk, ho⟩ := at_cell hqat
          simp only [St.at, hB, List.getElem?_set]
          by_cases hkk : k0 = k
          · subst hkk
            rw [hk0] at hk; injection hk with hk; injection hk with hk; subst hk
            have hoo : o0 ≠ o := fun e => hq (by rw [e])
            have : k0 < st.B.length := (List.getElem?_eq_some_iff.1 hk0).1
            simp [this, List.getElem?_set, hoo, ho]
          · simp [hkk, hk, ho]
      refine ⟨ω', hcN, h.size, h.defers, hlt, ⟨?_, fun k cs hk => ?_⟩, fun s => ?_⟩
      · show (setCt st.B k0 o0 (.sh m)).length = γ.length
        rw [hB, List.length_set]; exact h.boxes.len
      · have hk' : (setCt st.B k0 o0 (.sh m))[k]? = some (some cs) := hk
        rw [hB, List.getElem?_set] at hk'
        by_cases hkk : k0 = k
        · subst hkk
          have hl : k0 < st.B.length := (List.getElem?_eq_some_iff.1 hk0).1
          simp [hl] at hk'
          subst hk'
          obtain ⟨blk, cur, e, h1, h2, h3, h4, h5, h6⟩ := h.boxes.box k0 cs0 hk0
          refine ⟨blk, cur, e, h1, h2, by simp [ω', h3, Place.owner], h4, by simpa using h5, fun i c hi => ?_⟩
          rw [List.getElem?_set] at hi
          by_cases hii : o0 = i
          · subst hii
            simp [hlt0] at hi
            subst hi
            obtain ⟨u, hu, h1c, hb⟩ := h6 o0 _ ho0
            exact ⟨u, hu, h1c, own_to_rep hω hc hb⟩
          · simp [hii] at hi
            obtain ⟨u, hu, h1c, hb⟩ := h6 i c hi
            refine ⟨u, hu, h1c, hb.chg hc ?_⟩
            intro e; simp [Place.owner] at e; exact hii e.symm
        · simp [hkk] at hk'
          obtain ⟨blk, cur, e, h1, h2, h3, h4, h5, h6⟩ := h.boxes.box k cs hk'
          refine ⟨blk, cur, e, h1, h2, by simp [ω', h3, Place.owner], h4, h5, fun i c hi => ?_⟩
          obtain ⟨u, hu, h1c, hb⟩ := h6 i c hi
          refine ⟨u, hu, h1c, hb.chg hc ?_⟩
          intro e; simp [Place.owner] at e; exact hkk e.1.symm
      · show CtRep γ ω' w _ a.tmps (.slot s) (lk (retS _ m st.v) s) _
        rw [lk_retS]
        exact hslot _ s (by simp) hkeep
  · exact ⟨ω, Chg.refl _ _ _ _, h⟩

def retO (st : St) : Operand → St
  | .tmp t => match lk st.v t with
    | .own _ _ => st.retire (.slot t)
    | .al p => st.retire p
    | _ => st
  | _ => st

def retOs (st : St) : List Operand → St
  | [] => st
  | x :: r => retOs (retO st x) r

theorem Rel.retO {γ : List Nat} {ω : Own} {w : World} {nt : Nat} {st : St} {a : Act} (h : Rel γ ω w nt st a) (x : Operand) : ∃ ω', Chg NotOuter γ ω w γ ω' w ∧ Rel γ ω' w nt (retO st x) a := by
  cases x with
  | tmp t =>
    simp only [Go.Pv.retO]
    split
    · exact h.retire _
    · exact h.retire _
    · exact ⟨ω, Chg.refl _ _ _ _, h⟩
  | _ => exact ⟨ω, Chg.refl _ _ _ _, h⟩

theorem Rel.retOs {γ : List Nat} {w : World} {nt : Nat} {a : Act} : ∀ (xs : List Operand) {ω : Own} {st : St}, Rel γ ω w nt st a → ∃ ω', Chg NotOuter γ ω w γ ω' w ∧ Rel γ ω' w nt (retOs st xs) a
  | [], ω, st, h => ⟨ω, Chg.refl _ _ _ _, h⟩
  | x :: r, ω, st, h => by
    obtain ⟨ω1, hc1, h1⟩ := h.retO x
    obtain ⟨ω2, hc2, h2⟩ := Rel.retOs r h1
    exact ⟨ω2, hc1.trans hc2, h2⟩

end Go.Pv

end M8
section M9
/- A library of this session: what is held is handed on; assignment; append. -/
set_option linter.unusedVariables false
set_option linter.unusedSimpArgs false
namespace Go.Pv

/-- A place is empty from now on. -/
def St.spend (st : St) (p : Place) : St :=
  match p with
  | .slot s => { st with v := pt (killS p st.v) s .dead }
  | .cell k off => { v := killS p st.v, B := setCt st.B k off .dead }

/-- The value of a place is as it was, where no box has turned. -/
theorem cur_chg {γ : List Nat} {ω ω' : Own} {w w' : World} {nt : Nat} {st : St} {a : Act} (h : Rel γ ω w nt st a) {T : Owner → Prop} {γ' : List Nat} (hc : Chg T γ ω w γ' ω' w') (hb : ∀ k, ¬ T (.box k)) {q : Place} {sz : Nat} {m : MV} (hat : st.at q = .own sz m) {u : Value}
    (hu : q.cur γ a.tmps w u) : q.cur γ' a.tmps w' u := by
  cases q with
  | slot s => exact hu
  | cell k off =>
    obtain ⟨blk, h1, h2⟩ := hu
    obtain ⟨cs, hk, ho⟩ := at_cell hat
    obtain ⟨blk', u', g1, g2, g3, g4, _⟩ := cell_box h.boxes hk ho
    rw [h1] at g1; injection g1 with g1; subst g1
    refine ⟨blk, hc.pre _ _ h1, ?_⟩
    rw [cell_of_heap (hc.keep blk _ g2 g3 (hb k)).1]; exact h2

/-- Contents of a slot where others have turned. -/
theorem slot_chg {γ : List Nat} {ω ω' : Own} {w w' : World} {nt : Nat} {st st' : St} {a : Act} (h : Rel γ ω w nt st a) {T : Owner → Prop} {γ' : List Nat} (hc : Chg T γ ω w γ' ω' w') (hb : ∀ k, ¬ T (.box k)) {s : Nat} (ht : ¬ T (.slot s))
    (hk : ∀ (q : Place) (sz : Nat) (m : MV), (lk st.v s).refs q = true → st.at q = .own sz m → st'.at q = .own sz m) : CtRep γ' ω' w' st' a.tmps (.slot s) (lk st.v s) (a.tmps.getD s undef) := by
  have hold := h.slots s
  cases hcs : lk st.v s with
  | al q =>
    rw [hcs] at hold hk
    obtain ⟨⟨sz', m', h1⟩, h2⟩ := hold
    exact ⟨⟨sz', m', hk q sz' m' (by simp [Ct.refs]) h1⟩, cur_chg h hc hb h1 h2⟩
  | eadr q i off =>
    rw [hcs] at hold hk
    obtain ⟨sz', es, u, blk, h1, h2, h3, h4, h5⟩ := hold
    exact ⟨sz', es, u, blk, hk q sz' _ (by simp [Ct.refs]) h1, h2, cur_chg h hc hb h1 h3, h4, h5⟩
  | sh m' => rw [hcs] at hold; exact Rep.chg hc hold
  | own sz' m' => rw [hcs] at hold; exact OwnRep.chg hc ht hold
  | tupc cs => rw [hcs] at hold; exact CtRep.chg (st := st') hc ht hold (fun q u hq => by simp [Ct.refs] at hq)
  | siter s' pos => rw [hcs] at hold; exact CtRep.chg (st := st') hc ht hold (fun q u hq => by simp [Ct.refs] at hq)
  | dead => trivial

theorem boxes_but {γ γ' : List Nat} {ω ω' : Own} {w w' : World} {B : List (Option (List Ct))} (h : Boxes γ ω w B) {T : Owner → Prop} (hγ : γ'.length = γ.length) (hc : Chg T γ ω w γ' ω' w') (hb : ∀ k, ¬ T (.box k)) {k0 o0 : Nat} (ht : ∀ k i, T (.cell k i) → k = k0 ∧ i = o0) {c' : Ct}
    (hc' : ∀ u, (∃ cs, B[k0]? = some (some cs) ∧ ∃ c blk, cs[o0]? = some c ∧ γ[k0]? = some blk ∧ w.cell? ⟨blk, o0, none⟩ = some u) → BoxCt γ' ω' w' k0 o0 c' u) : Boxes γ' ω' w' (setCt B k0 o0 c') := by
  refine ⟨?_, fun k cs hk => ?_⟩
  · unfold setCt; split
    · rw [List.length_set, hγ]; exact h.len
    · rw [hγ]; exact h.len
  · unfold setCt at hk
    split at hk
    · rename_i cs0 hk0
      rw [List.getElem?_set] at hk
      by_cases hkk : k0 = k
      · subst hkk
        have hl : k0 < B.length := (List.getElem?_eq_some_iff.1 hk0).1
        simp [hl] at hk
        subst hk
        obtain ⟨blk, cur, e, h1, h2, h3, h4, h5, h6⟩ := h.box k0 cs0 hk0
        obtain ⟨e1, o1⟩ := hc.keep blk _ h2 h3 (hb k0)
        refine ⟨blk, cur, e, hc.pre _ _ h1, Nat.lt_of_lt_of_le h2 hc.size, o1, e1.trans h4, by simpa using h5, fun i c hi => ?_⟩
        rw [List.getElem?_set] at hi
        by_cases hii : o0 = i
        · subst hii
          split at hi
          · split at hi
            · rename_i hlt
              injection hi with hi; subst hi
              obtain ⟨u, hu, h1c, hb'⟩ := h6 o0 _ (List.getElem?_eq_getElem hlt)
              refine ⟨u, hu, h1c, hc' u ⟨cs0, hk0, _, blk, List.getElem?_eq_getElem hlt, h1, by simp [World.cell?, h4, hu]⟩⟩
            · simp at hi
          · rename_i hne; exact absurd rfl hne
        · simp [hii] at hi
          obtain ⟨u, hu, h1c, hb'⟩ := h6 i c hi
          exact ⟨u, hu, h1c, hb'.chg hc (fun e => hii (ht _ _ e).2.symm)⟩
      · simp [hkk] at hk
        obtain ⟨blk, cur, e, h1, h2, h3, h4, h5, h6⟩ := h.box k cs hk
        obtain ⟨e1, o1⟩ := hc.keep blk _ h2 h3 (hb k)
        refine ⟨blk, cur, e, hc.pre _ _ h1, Nat.lt_of_lt_of_le h2 hc.size, o1, e1.trans h4, h5, fun i c hi => ?_⟩
        obtain ⟨u, hu, h1c, hb'⟩ := h6 i c hi
        exact ⟨u, hu, h1c, hb'.chg hc (fun e => hkk (ht _ _ e).1.symm)⟩
    · rename_i hno
      obtain ⟨blk, cur, e, h1, h2, h3, h4, h5, h6⟩ := h.box k cs hk
      obtain ⟨e1, o1⟩ := hc.keep blk _ h2 h3 (hb k)
      refine ⟨blk, cur, e, hc.pre _ _ h1, Nat.lt_of_lt_of_le h2 hc.size, o1, e1.trans h4, h5, fun i c hi => ?_⟩
      obtain ⟨u, hu, h1c, hb'⟩ := h6 i c hi
      refine ⟨u, hu, h1c, hb'.chg hc (fun e => ?_)⟩
      obtain ⟨rfl, _⟩ := ht _ _ e
      exact hno cs hk

/-- What one place held has turned, or has gone elsewhere. -/
theorem Rel.spend {γ : List Nat} {ω ω' : Own} {w w' : World} {nt : Nat} {st : St} {a : Act} (h : Rel γ ω w nt st a) {p : Place} {sz : Nat} {m : MV} (hat : st.at p = .own sz m)
    (hc : Chg (fun x => x = p.owner) γ ω w γ ω' w') (hlt : ∀ b, w'.heap.size ≤ b → ω' b = none) : Rel γ ω' w' nt (st.spend p) a := by
  have hb : ∀ k, ¬ (Owner.box k = p.owner) := by intro k; cases p <;> simp [Place.owner]
  cases p with
  | slot s0 =>
    refine ⟨h.size, h.defers, hlt, h.boxes.chg hc rfl (fun k e => by simp [Place.owner] at e) (fun k i e => by simp [Place.owner] at e), fun s => ?_⟩
    show CtRep γ ω' w' _ a.tmps (.slot s) (lk (pt _ s0 _) s) _
    rw [lk_pt]
    by_cases hs : s0 = s
    · rw [if_pos hs]; trivial
    · rw [if_neg hs, lk_killS]
      by_cases hr : (lk st.v s).refs (.slot s0) = true
      · rw [if_pos hr]; trivial
      · rw [if_neg hr]
        refine slot_chg h hc (fun k e => hb k e) (fun e => hs (by simp [Place.owner] at e; exact e.symm)) (fun q sz' m' hq hqat => ?_)
        cases q with
        | slot s1 =>
          have hs1 : s0 ≠ s1 := fun e => hr (by rw [e]; exact hq)
          simp only [St.at, St.spend] at hqat ⊢
          rw [lk_pt, if_neg hs1, lk_killS, hqat]; simp [Ct.refs]
        | cell k o => exact hqat
  | cell k0 o0 =>
    obtain ⟨cs0, hk0, ho0⟩ := at_cell hat
    refine ⟨h.size, h.defers, hlt, ?_, fun s => ?_⟩
    · exact boxes_but h.boxes rfl hc (fun k e => hb k e) (fun k i e => by simp [Place.owner] at e; exact e) (fun u _ => trivial)
    · show CtRep γ ω' w' _ a.tmps (.slot s) (lk (killS _ st.v) s) _
      rw [lk_killS]
      by_cases hr : (lk st.v s).refs (.cell k0 o0) = true
      · rw [if_pos hr]; trivial
      · rw [if_neg hr]
        refine slot_chg h hc (fun k e => hb k e) (fun e => by simp [Place.owner] at e) (fun q sz' m' hq hqat => ?_)
        cases q with
        | slot s1 => simp only [St.at, St.spend] at hqat ⊢; rw [lk_killS, hqat]; simp [Ct.refs]
        | cell k o =>
          obtain ⟨cs, hk, ho⟩ := at_cell hqat
          have hB : setCt st.B k0 o0 .dead = st.B.set k0 (some (cs0.set o0 .dead)) := by simp [setCt, hk0]
          simp only [St.at, St.spend, hB, List.getElem?_set]
          by_cases hkk : k0 = k
          · subst hkk
            rw [hk0] at hk; injection hk with hk; injection hk with hk; subst hk
            have hoo : o0 ≠ o := fun e => hr (by rw [e]; exact hq)
            have : k0 < st.B.length := (List.getElem?_eq_some_iff.1 hk0).1
            simp [this, List.getElem?_set, hoo, ho]
          · simp [hkk, hk, ho]

/-- The block that a held value lies in. -/
def holdB : Value → Option Nat
  | .slice (some a) _ _ => some a.block
  | .map r => r
  | _ => none

/-- What a place holds is handed to another owner. -/
theorem Rel.take {γ : List Nat} {ω : Own} {w : World} {nt : Nat} {st : St} {a : Act} (h : Rel γ ω w nt st a) {p : Place} {sz : Nat} {m : MV} {v : Value} (hat : st.at p = .own sz m) (hv : p.cur γ a.tmps w v) (o' : Owner) (ho' : o' ≠ .outer) :
    ∃ ω', Chg NotOuter γ ω w γ ω' w ∧ Rel γ ω' w nt (st.spend p) a ∧ OwnRep γ ω' w o' sz m v := by
  have hown := cur_own h hat hv
  let ω' : Own := fun b => if holdB v = some b then some o' else ω b
  have hlab : ∀ b, holdB v = some b → ω b = some p.owner ∧ b < w.heap.size := by
    intro b hb
    cases hown with
    | list es _ e xs hr hcl ho =>
      cases v with
      | slice A n c => cases A with
        | none => simp [holdB] at hb
        | some ad => simp [holdB] at hb; exact ho b (by simp [Value.ownBlock, hb])
      | _ => rcases hr.2 with ⟨h1, _⟩ | ⟨g, cap, cur, h1, _⟩ <;> exact absurd h1 (by simp)
    | map m blk es clock ho hlt hb' he => simp [holdB] at hb; subst hb; exact ⟨ho, hlt⟩
  have hc : Chg (fun x => x = p.owner) γ ω w γ ω' w := by
    refine ⟨rfl, rfl, rfl, Nat.le_refl _, fun _ _ h => h, fun b _ h0 => ⟨rfl, ?_⟩, fun b o _ h0 hn => ⟨rfl, ?_⟩⟩
    · simp only [ω']
      split
      · rename_i hb; rw [(hlab b hb).1] at h0; exact absurd h0 (by simp)
      · exact h0
    · simp only [ω']
      split
      · rename_i hb; rw [(hlab b hb).1] at h0; injection h0 with h0; exact absurd h0.symm hn
      · exact h0
  have hne : p.owner ≠ .outer := by cases p <;> simp [Place.owner]
  have hlt : ∀ b, w.heap.size ≤ b → ω' b = none := by
    intro b hb
    simp only [ω']
    split
    · rename_i hb'; have := (hlab b hb').2; omega
    · exact h.lt b hb
  refine ⟨ω', hc.mono (fun o ho => by rw [ho]; exact hne), h.spend hat hc hlt, ?_⟩
  cases hown with
  | list es _ e xs hr hcl ho =>
    refine .list sz es v e xs hr (hcl.chg hc) (fun b hb => ⟨?_, (ho b hb).2⟩)
    have : holdB v = some b := by
      cases v <;> simp [Value.ownBlock] at hb
      rename_i A n c
      cases A with
      | none => simp [Value.ownBlock] at hb
      | some ad => simp [Value.ownBlock] at hb; simp [holdB, hb]
    simp [ω', this]
  | map m blk es clock ho hltb hb he => exact .map sz m blk es clock (by simp [ω', holdB]) hltb hb (he.chg hc)

/-! ### Assignment -/
def asgP (P : Program) (st : St) (ty : TypeId) (d : Nat) (x : Operand) (K : St → Prop) : Prop :=
  match x with
  | .tmp t => match lk st.v t with
    | .sh m => K (st.put d (.sh m))
    | .own sz m => if t = d then K st else K ((st.spend (.slot t)).put d (.own sz m))
    | .al p => if p = .slot d then K st else (match (st.retire p).at p with
      | .sh m => K ((st.retire p).put d (.sh m))
      | _ => False)
    | .eadr p i o => K (st.put d (.eadr p i o))
    | _ => False
  | .const v =>
    if isNilC (.const v) = true then (match kdOf P ty with
      | .slice e => K (st.put d (.own (szOf P e) (.list [])))
      | _ => False)
    else match mvConst v with
      | some m => K (st.put d (.sh m))
      | none => False
  | .func f => K (st.put d (.sh (.fn f [])))
  | .global _ => False

theorem retire_at {γ : List Nat} {ω : Own} {w : World} {nt : Nat} {st : St} {a : Act} (h : Rel γ ω w nt st a) {t : Nat} {p : Place} (hc : lk st.v t = .al p) {m : MV} (hm : (st.retire p).at p = .sh m) : lk (st.retire p).v t = .sh m := by
  have := h.slots t
  rw [hc] at this
  obtain ⟨⟨sz, m', h1⟩, _⟩ := this
  have e : m' = m := by
    unfold St.retire at hm
    simp only [h1] at hm
    cases p with
    | slot s => simp only [St.at, lk_pt, if_true] at hm; injection hm
    | cell k off =>
      obtain ⟨cs, hk, ho⟩ := at_cell h1
      have hl : k < st.B.length := (List.getElem?_eq_some_iff.1 hk).1
      have hlo : off < cs.length := (List.getElem?_eq_some_iff.1 ho).1
      have hB : setCt st.B k off (.sh m') = st.B.set k (some (cs.set off (.sh m'))) := by simp [setCt, hk]
      simp only [St.at, hB] at hm
      simp [hl, hlo] at hm
      exact hm
  subst e
  unfold St.retire
  simp only [h1]
  cases p with
  | slot s =>
    simp only [lk_pt]
    by_cases hs : s = t
    · rw [if_pos hs]
    · rw [if_neg hs, lk_retS, hc]; simp [retC]
  | cell k off => simp only [lk_retS, hc]; simp [retC]

theorem asg_ok {P : Program} {γ : List Nat} {ω : Own} {w : World} {nt : Nat} {st : St} {a : Act} (h : Rel γ ω w nt st a) {ty : TypeId} {d : Nat} (hd : d < nt) {x : Operand} {K : St → Prop} (hx : asgP P st ty d x K) :
    Does P nt γ ω w (a.put (some d) (a.eval x)) K := by
  cases x with
  | tmp t =>
    simp only [asgP] at hx
    split at hx
    · rename_i m hc
      exact ⟨ω, _, Chg.refl _ _ _ _, h.put hd (c := .sh m) (slot_rep h t hc), hx⟩
    · rename_i sz m hc
      split at hx
      · rename_i hs
        subst hs
        refine ⟨ω, st, Chg.refl _ _ _ _, ?_, hx⟩
        have : a.put (some t) (a.eval (.tmp t)) = a := by
          simp only [Act.put, Act.eval]
          have hlt : t < a.tmps.size := by rw [h.size]; exact hd
          have e1 : a.tmps.getD t undef = a.tmps[t] := by
            rw [Array.getD_eq_getD_getElem?, Array.getElem?_eq_getElem hlt]; rfl
          rw [e1, Array.setIfInBounds_def]
          simp [hlt]
        rw [this]; exact h
      · rename_i hs
        obtain ⟨ω', hcg, h1, h2⟩ := h.take (p := .slot t) (v := a.eval (.tmp t)) hc rfl (.slot d) (by simp)
        exact ⟨ω', _, hcg, h1.put hd (c := .own sz m) h2, hx⟩
    · rename_i p hc
      split at hx
      · rename_i hs
        subst hs
        have hv := h.slots t
        rw [hc] at hv
        have e : a.eval (.tmp t) = a.tmps.getD d undef := hv.2.symm
        refine ⟨ω, st, Chg.refl _ _ _ _, ?_, hx⟩
        have : a.put (some d) (a.eval (.tmp t)) = a := by
          rw [e]
          simp only [Act.put]
          have hlt : d < a.tmps.size := by rw [h.size]; exact hd
          have e1 : a.tmps.getD d undef = a.tmps[d] := by
            rw [Array.getD_eq_getD_getElem?, Array.getElem?_eq_getElem hlt]; rfl
          rw [e1, Array.setIfInBounds_def]
          simp [hlt]
        rw [this]; exact h
      · split at hx
        · rename_i m hm
          obtain ⟨ω', hcg, h1⟩ := h.retire p
          have hl := retire_at h hc hm
          exact ⟨ω', _, hcg, h1.put hd (c := .sh m) (slot_rep h1 t hl), hx⟩
        · exact hx.elim
    · rename_i p i o hc
      exact ⟨ω, _, Chg.refl _ _ _ _, h.put hd (c := .eadr p i o) (slot_rep h t hc), hx⟩
    · exact hx.elim
  | const v =>
    simp only [asgP] at hx
    split at hx
    · rename_i hnil
      have hv : v = .slice none 0 0 := by
        unfold isNilC at hnil
        split at hnil
        · rename_i heq; injection heq
        · exact absurd hnil (by simp)
      subst hv
      split at hx
      · rename_i e hk
        refine ⟨ω, _, Chg.refl _ _ _ _, h.put hd (c := .own (szOf P e) (.list [])) ?_, hx⟩
        exact OwnRep.list _ [] _ e [] (World.ownsRow_nil w 0 e (szOf P e)) ⟨by simp, by simp, by simp, by simp⟩ (fun b hb => by simp [Act.eval, Value.ownBlock] at hb)
      · exact hx.elim
    · split at hx
      · rename_i m hm
        exact ⟨ω, _, Chg.refl _ _ _ _, h.put hd (c := .sh m) (const_rep hm), hx⟩
      · exact hx.elim
  | func f =>
    simp only [asgP] at hx
    exact ⟨ω, _, Chg.refl _ _ _ _, h.put hd (c := .sh (.fn f [])) (Rep.fn f [] [] rfl (by simp)), hx⟩
  | global g => simp [asgP] at hx

end Go.Pv

end M9
