/- A library of this session: Go's values as pure values, and how they lie in the model's memory. -/
import Derived.Calls
import Derived.Below
import Derived.WalkKit
import Derived.Laws.AppendOwn
import Derived.Laws.MakeOwn
import Derived.Laws.OwnMore
import Derived.KernelRfl
set_option linter.unusedVariables false
set_option linter.unusedSimpArgs false
namespace Go.Pv

/-- Keys of maps. -/
inductive MKey where
  | str (s : ByteArray)
  | int (k : IntKind) (n : Int)
  | bool (b : Bool)
  | strs (l : List ByteArray)
  deriving DecidableEq

def MKey.val : MKey → Value
  | .str s => .string s
  | .int k n => .int k n
  | .bool b => .bool b
  | .strs l => .agg (l.map Value.string).toArray

/-- Pure values. -/
inductive MV where
  | bool (b : Bool)
  | int (k : IntKind) (n : Int)
  | str (s : ByteArray)
  | agg (cs : List MV)
  | tup (vs : List MV)
  | list (es : List (List MV))
  | nil
  | fn (f : FuncId) (cap : List MV)
  | nilfn
  | ptr (b off : Nat)
  | cptr (cs : List MV) (off : Nat)
  | nilptr
  | map (m : List (MKey × MV))
  | ifc (t : TypeId) (v : MV)
  | nilifc
  deriving Inhabited

/-- Who holds a block of the heap. -/
inductive Owner where
  | box (k : Nat)
  | cell (k off : Nat)
  | slot (s : Nat)
  | outer
  | res
  deriving DecidableEq

/-- Places that hold contents. -/
inductive Place where
  | slot (s : Nat)
  | cell (k off : Nat)
  deriving DecidableEq

def Place.owner : Place → Owner
  | .slot s => .slot s
  | .cell k off => .cell k off

/-- Contents of a slot, or of a cell of a box. -/
inductive Ct where
  | sh (v : MV)
  | own (sz : Nat) (v : MV)
  | al (p : Place)
  | eadr (p : Place) (i off : Nat)
  | tupc (cs : List (Option Nat × MV))
  | siter (s : ByteArray) (pos : Nat)
  | dead
  deriving Inhabited

abbrev Own := Nat → Option Owner

section
variable (γ : List Nat) (ω : Own) (w : World)

/-- A value of the model is a pure value; what it leads to is nobody's, and so it stays. -/
inductive Rep : MV → Value → Prop where
  | bool (b : Bool) : Rep (.bool b) (.bool b)
  | int (k : IntKind) (n : Int) : Rep (.int k n) (.int k n)
  | str (s : ByteArray) : Rep (.str s) (.string s)
  | agg (cs : List MV) (vs : List Value) (hl : vs.length = cs.length) (h : ∀ (i : Nat) (c : MV) (v : Value), cs[i]? = some c → vs[i]? = some v → Rep c v)
      (h1 : ∀ v ∈ vs, v.oneCell' = true) : Rep (.agg cs) (.agg vs.toArray)
  | tup (cs : List MV) (vs : List Value) (hl : vs.length = cs.length) (h : ∀ (i : Nat) (c : MV) (v : Value), cs[i]? = some c → vs[i]? = some v → Rep c v) : Rep (.tup cs) (.tuple vs.toArray)
  | list (es : List (List MV)) (sz blk o cap : Nat) (us : Nat → Nat → Value) (hcap : es.length ≤ cap) (hω : ω blk = none) (hlt : blk < w.heap.size)
      (hsz : ∀ e ∈ es, e.length = sz)
      (hc : ∀ (j : Nat) (e : List MV), es[j]? = some e → ∀ (i : Nat) (c : MV), e[i]? = some c → w.cell? ⟨blk, o + (j * sz + i), none⟩ = some (us j i) ∧ (us j i).oneCell' = true)
      (h : ∀ (j : Nat) (e : List MV), es[j]? = some e → ∀ (i : Nat) (c : MV), e[i]? = some c → Rep c (us j i)) :
      Rep (.list es) (.slice (some ⟨blk, o, none⟩) es.length cap)
  | list0 (a : Option Addr) (cap : Nat) : Rep (.list []) (.slice a 0 cap)
  | nil : Rep .nil (.slice none 0 0)
  | fn (f : FuncId) (cs : List MV) (vs : List Value) (hl : vs.length = cs.length) (h : ∀ (i : Nat) (c : MV) (v : Value), cs[i]? = some c → vs[i]? = some v → Rep c v) :
      Rep (.fn f cs) (.func (.func f) #[] vs.toArray)
  | nilfn : Rep .nilfn .nilFunc
  | ptr (b off blk : Nat) (hb : γ[b]? = some blk) : Rep (.ptr b off) (.pointer (some ⟨blk, off, none⟩))
  | cptr (cs : List MV) (off blk o : Nat) (us : Nat → Value) (hω : ω blk = none) (hlt : blk < w.heap.size)
      (hc : ∀ (i : Nat) (c : MV), cs[i]? = some c → w.cell? ⟨blk, o + i, none⟩ = some (us i) ∧ (us i).oneCell' = true)
      (h : ∀ (i : Nat) (c : MV), cs[i]? = some c → Rep c (us i)) : Rep (.cptr cs off) (.pointer (some ⟨blk, o + off, none⟩))
  | nilptr : Rep .nilptr (.pointer none)
  | map (m : List (MKey × MV)) (blk : Nat) (es : List MapEntry) (clock : Nat) (hω : ω blk = none) (hb : w.heap[blk]? = some (.map es.toArray clock)) (hl : es.length = m.length)
      (hk : ∀ (i : Nat) (x : MKey × MV) (e : MapEntry), m[i]? = some x → es[i]? = some e → e.key = x.1.val)
      (hv : ∀ (i : Nat) (x : MKey × MV) (e : MapEntry), m[i]? = some x → es[i]? = some e → Rep x.2 e.val) (hlt : blk < w.heap.size)
      (hbn : ∀ e ∈ es, e.born < clock) (hnd : (es.map (·.born)).Nodup) :
      Rep (.map m) (.map (some blk))
  | map0 : Rep (.map []) (.map none)
  | ifc (t : TypeId) (c : MV) (v : Value) (h : Rep c v) : Rep (.ifc t c) (.iface t v)
  | nilifc : Rep .nilifc .nilIface

/-- The cells of a row. -/
structure Cells (sz : Nat) (es : List (List MV)) (xs : List Value) : Prop where
  len : xs.length = es.length * sz
  wid : ∀ e ∈ es, e.length = sz
  one : ∀ u ∈ xs, u.oneCell' = true
  rep : ∀ (j : Nat) (e : List MV), es[j]? = some e → ∀ (i : Nat) (c : MV), e[i]? = some c → ∃ u, xs[j * sz + i]? = some u ∧ Rep γ ω w c u

/-- The entries of a map. -/
structure Entries (m : List (MKey × MV)) (es : List MapEntry) (clock : Nat) : Prop where
  len : es.length = m.length
  key : ∀ (i : Nat) (x : MKey × MV) (e : MapEntry), m[i]? = some x → es[i]? = some e → e.key = x.1.val
  val : ∀ (i : Nat) (x : MKey × MV) (e : MapEntry), m[i]? = some x → es[i]? = some e → Rep γ ω w x.2 e.val
  born : ∀ e ∈ es, e.born < clock
  nodup : (es.map (·.born)).Nodup

/-- A row, or a map, that one place alone holds. -/
inductive OwnRep (o : Owner) : Nat → MV → Value → Prop where
  | list (sz : Nat) (es : List (List MV)) (v : Value) (e : TypeId) (xs : List Value) (hr : w.ownsRow 0 e sz v es.length xs) (hc : Cells γ ω w sz es xs)
      (ho : ∀ b, v.ownBlock = some b → ω b = some o ∧ b < w.heap.size) : OwnRep o sz (.list es) v
  | map (sz : Nat) (m : List (MKey × MV)) (blk : Nat) (es : List MapEntry) (clock : Nat) (ho : ω blk = some o) (hlt : blk < w.heap.size) (hb : w.heap[blk]? = some (.map es.toArray clock)) (he : Entries γ ω w m es clock) :
      OwnRep o sz (.map m) (.map (some blk))

end

structure St where
  v : List (Nat × Ct)
  B : List (Option (List Ct))

def lk : List (Nat × Ct) → Nat → Ct
  | [], _ => .dead
  | (k, c) :: r, s => if k = s then c else lk r s
def pt : List (Nat × Ct) → Nat → Ct → List (Nat × Ct)
  | [], s, c => [(s, c)]
  | (k, x) :: r, s, c => if k = s then (k, c) :: r else (k, x) :: pt r s c

theorem lk_pt (v : List (Nat × Ct)) (s : Nat) (c : Ct) (t : Nat) : lk (pt v s c) t = if s = t then c else lk v t := by
  induction v with
  | nil => simp [pt, lk]
  | cons x r ih =>
    obtain ⟨k, y⟩ := x
    by_cases h : k = s
    · subst h; simp [pt, lk]; split <;> rfl
    · simp only [pt, h, if_false, lk, ih]
      by_cases h2 : k = t
      · subst h2; simp [Ne.symm h]
      · simp [h2]

/-- What a place holds. -/
def St.at (st : St) : Place → Ct
  | .slot s => lk st.v s
  | .cell k off => match st.B[k]? with
    | some (some cs) => (cs[off]?).getD .dead
    | _ => .dead

/-- The model's value that a place holds. -/
def Place.cur (γ : List Nat) (tmps : Array Value) (w : World) : Place → Value → Prop
  | .slot s, v => tmps.getD s undef = v
  | .cell k off, v => ∃ blk, γ[k]? = some blk ∧ w.cell? ⟨blk, off, none⟩ = some v

section
variable (γ : List Nat) (ω : Own) (w : World)

/-- A content and a value of the model; o: the place's own name. -/
def CtRep (st : St) (tmps : Array Value) (o : Owner) : Ct → Value → Prop
  | .sh m, v => Rep γ ω w m v
  | .own sz m, v => OwnRep γ ω w o sz m v
  | .al p, v => (∃ sz m, st.at p = .own sz m) ∧ p.cur γ tmps w v
  | .eadr p i off, v => ∃ sz es u blk, st.at p = .own sz (.list es) ∧ i < es.length ∧ p.cur γ tmps w u ∧ u.ownBlock = some blk ∧ v = .pointer (some ⟨blk, i * sz + off, none⟩)
  | .tupc cs, v => ∃ vs : List Value, v = .tuple vs.toArray ∧ vs.length = cs.length ∧ ∀ (i : Nat) (c : Option Nat × MV) (u : Value), cs[i]? = some c → vs[i]? = some u →
      match c.1 with | none => Rep γ ω w c.2 u | some sz => OwnRep γ ω w o sz c.2 u
  | .siter s pos, v => ∃ blk, v = .pointer (some ⟨blk, 0, none⟩) ∧ ω blk = some o ∧ blk < w.heap.size ∧ w.heap[blk]? = some (.stringIter s pos)
  | .dead, _ => True

/-- Contents of a box: only what lasts. -/
def BoxCt (k i : Nat) : Ct → Value → Prop
  | .sh m, v => Rep γ ω w m v
  | .own sz m, v => OwnRep γ ω w (.cell k i) sz m v
  | .dead, _ => True
  | _, _ => False

/-- The boxes. -/
structure Boxes (B : List (Option (List Ct))) : Prop where
  len : B.length = γ.length
  box : ∀ (k : Nat) (cs : List Ct), B[k]? = some (some cs) → ∃ blk cur e, γ[k]? = some blk ∧ blk < w.heap.size ∧ ω blk = some (.box k) ∧ w.heap[blk]? = some (.cells cur e (0, 0)) ∧ cur.size = cs.length ∧
    ∀ (i : Nat) (c : Ct), cs[i]? = some c → ∃ u, cur[i]? = some u ∧ u.oneCell' = true ∧ BoxCt γ ω w k i c u

structure Rel (nt : Nat) (st : St) (a : Act) : Prop where
  size : a.tmps.size = nt
  defers : a.defers = []
  lt : ∀ b, w.heap.size ≤ b → ω b = none
  boxes : Boxes γ ω w st.B
  slots : ∀ s, CtRep γ ω w st a.tmps (.slot s) (lk st.v s) (a.tmps.getD s undef)
end

/-- From one moment to a later one; what T names may have changed. -/
structure Chg (T : Owner → Prop) (γ : List Nat) (ω : Own) (w : World) (γ' : List Nat) (ω' : Own) (w' : World) : Prop where
  os : w'.os = w.os
  tape : w'.tape = w.tape
  output : w'.output = w.output
  size : w.heap.size ≤ w'.heap.size
  pre : ∀ (k b : Nat), γ[k]? = some b → γ'[k]? = some b
  none : ∀ b, b < w.heap.size → ω b = none → w'.heap[b]? = w.heap[b]? ∧ ω' b = none
  keep : ∀ b o, b < w.heap.size → ω b = some o → ¬ T o → w'.heap[b]? = w.heap[b]? ∧ ω' b = some o

theorem Chg.refl (T : Owner → Prop) (γ : List Nat) (ω : Own) (w : World) : Chg T γ ω w γ ω w :=
  ⟨rfl, rfl, rfl, Nat.le_refl _, fun _ _ h => h, fun _ _ h => ⟨rfl, h⟩, fun _ _ _ h _ => ⟨rfl, h⟩⟩

theorem Chg.trans {T : Owner → Prop} {γ γ1 γ2 : List Nat} {ω ω1 ω2 : Own} {w w1 w2 : World} (h : Chg T γ ω w γ1 ω1 w1) (h2 : Chg T γ1 ω1 w1 γ2 ω2 w2) : Chg T γ ω w γ2 ω2 w2 :=
  ⟨h2.os.trans h.os, h2.tape.trans h.tape, h2.output.trans h.output, Nat.le_trans h.size h2.size, fun k b hk => h2.pre k b (h.pre k b hk),
   fun b hb h0 => by
    obtain ⟨e1, o1⟩ := h.none b hb h0
    obtain ⟨e2, o2⟩ := h2.none b (Nat.lt_of_lt_of_le hb h.size) o1
    exact ⟨e2.trans e1, o2⟩,
   fun b o hb h0 ht => by
    obtain ⟨e1, o1⟩ := h.keep b o hb h0 ht
    obtain ⟨e2, o2⟩ := h2.keep b o (Nat.lt_of_lt_of_le hb h.size) o1 ht
    exact ⟨e2.trans e1, o2⟩⟩

theorem Chg.mono {T T' : Owner → Prop} {γ γ1 : List Nat} {ω ω1 : Own} {w w1 : World} (h : Chg T γ ω w γ1 ω1 w1) (ht : ∀ o, T o → T' o) : Chg T' γ ω w γ1 ω1 w1 :=
  ⟨h.os, h.tape, h.output, h.size, h.pre, h.none, fun b o hb h0 hn => h.keep b o hb h0 (fun hT => hn (ht o hT))⟩

theorem cell_of_heap {w w' : World} {b : Nat} (h : w'.heap[b]? = w.heap[b]?) (off : Nat) : w'.cell? ⟨b, off, none⟩ = w.cell? ⟨b, off, none⟩ := by simp [World.cell?, h]

/-- What is shared stays. -/
theorem Rep.chg {T : Owner → Prop} {γ γ' : List Nat} {ω ω' : Own} {w w' : World} (hc : Chg T γ ω w γ' ω' w') {m : MV} {v : Value} (h : Rep γ ω w m v) : Rep γ' ω' w' m v := by
  induction h with
  | bool b => exact .bool b
  | int k n => exact .int k n
  | str s => exact .str s
  | agg cs vs hl _ h1 ih => exact .agg cs vs hl ih h1
  | tup cs vs hl _ ih => exact .tup cs vs hl ih
  | list es sz blk o cap us hcap hω hlt hsz hcell _ ih =>
    obtain ⟨e, hω'⟩ := hc.none blk hlt hω
    exact .list es sz blk o cap us hcap hω' (Nat.lt_of_lt_of_le hlt hc.size) hsz (fun j x hj i c hi => by rw [cell_of_heap e]; exact hcell j x hj i c hi) ih
  | list0 a cap => exact .list0 a cap
  | nil => exact .nil
  | fn f cs vs hl _ ih => exact .fn f cs vs hl ih
  | nilfn => exact .nilfn
  | ptr b off blk hb => exact .ptr b off blk (hc.pre b blk hb)
  | cptr cs off blk o us hω hlt hcell _ ih =>
    obtain ⟨e, hω'⟩ := hc.none blk hlt hω
    exact .cptr cs off blk o us hω' (Nat.lt_of_lt_of_le hlt hc.size) (fun i c hi => by rw [cell_of_heap e]; exact hcell i c hi) ih
  | nilptr => exact .nilptr
  | map m blk es clock hω hb hl hk _ hlt hbn hnd ih =>
    obtain ⟨e, hω'⟩ := hc.none blk hlt hω
    exact .map m blk es clock hω' (e.trans hb) hl hk ih (Nat.lt_of_lt_of_le hlt hc.size) hbn hnd
  | map0 => exact .map0
  | ifc t c v _ ih => exact .ifc t c v ih
  | nilifc => exact .nilifc

theorem Cells.chg {T : Owner → Prop} {γ γ' : List Nat} {ω ω' : Own} {w w' : World} (hc : Chg T γ ω w γ' ω' w') {sz : Nat} {es : List (List MV)} {xs : List Value} (h : Cells γ ω w sz es xs) : Cells γ' ω' w' sz es xs :=
  ⟨h.len, h.wid, h.one, fun j e hj i c hi => by obtain ⟨u, hu, hr⟩ := h.rep j e hj i c hi; exact ⟨u, hu, hr.chg hc⟩⟩
theorem Entries.chg {T : Owner → Prop} {γ γ' : List Nat} {ω ω' : Own} {w w' : World} (hc : Chg T γ ω w γ' ω' w') {m : List (MKey × MV)} {es : List MapEntry} {clock : Nat} (h : Entries γ ω w m es clock) : Entries γ' ω' w' m es clock :=
  ⟨h.len, h.key, fun i x e hx he => (h.val i x e hx he).chg hc, h.born, h.nodup⟩

theorem ownsRow_heap {w w' : World} {e : TypeId} {sz n : Nat} {v : Value} {xs : List Value} (h : w.ownsRow 0 e sz v n xs) (hb : ∀ b, v.ownBlock = some b → w'.heap[b]? = w.heap[b]?) : w'.ownsRow 0 e sz v n xs := by
  obtain ⟨h1, h2⟩ := h
  refine ⟨h1, ?_⟩
  rcases h2 with h2 | ⟨g, cap, cur, rfl, hg, hh, r⟩
  · exact .inl h2
  · exact .inr ⟨g, cap, cur, rfl, hg, (hb g (by simp [Value.ownBlock])).trans hh, r⟩

/-- What one place holds stays, where others change. -/
theorem OwnRep.chg {T : Owner → Prop} {γ γ' : List Nat} {ω ω' : Own} {w w' : World} (hc : Chg T γ ω w γ' ω' w') {o : Owner} (ht : ¬ T o) {sz : Nat} {m : MV} {v : Value} (h : OwnRep γ ω w o sz m v) : OwnRep γ' ω' w' o sz m v := by
  cases h with
  | list es _ e xs hr hcl ho =>
    refine .list sz es v e xs (ownsRow_heap hr fun b hb => (hc.keep b o (ho b hb).2 (ho b hb).1 ht).1) (hcl.chg hc) fun b hb => ⟨(hc.keep b o (ho b hb).2 (ho b hb).1 ht).2, Nat.lt_of_lt_of_le (ho b hb).2 hc.size⟩
  | map m blk es clock ho hlt hb he =>
    obtain ⟨e, o'⟩ := hc.keep blk o hlt ho ht
    exact .map sz m blk es clock o' (Nat.lt_of_lt_of_le hlt hc.size) (e.trans hb) (he.chg hc)

theorem BoxCt.chg {T : Owner → Prop} {γ γ' : List Nat} {ω ω' : Own} {w w' : World} (hc : Chg T γ ω w γ' ω' w') {k i : Nat} (ht : ¬ T (.cell k i)) {c : Ct} {v : Value} (h : BoxCt γ ω w k i c v) : BoxCt γ' ω' w' k i c v := by
  cases c <;> simp only [BoxCt] at h ⊢ <;> first | exact h.chg hc | exact h.chg hc ht | exact h

theorem Boxes.chg {T : Owner → Prop} {γ γ' : List Nat} {ω ω' : Own} {w w' : World} (hc : Chg T γ ω w γ' ω' w') (hγ : γ'.length = γ.length) (ht : ∀ k, ¬ T (.box k)) (ht2 : ∀ k i, ¬ T (.cell k i)) {B : List (Option (List Ct))} (h : Boxes γ ω w B) : Boxes γ' ω' w' B :=
  ⟨h.len.trans hγ.symm, fun k cs hk => by
    obtain ⟨blk, cur, e, h1, h2, h3, h4, h5, h6⟩ := h.box k cs hk
    obtain ⟨e1, o1⟩ := hc.keep blk _ h2 h3 (ht k)
    exact ⟨blk, cur, e, hc.pre k blk h1, Nat.lt_of_lt_of_le h2 hc.size, o1, e1.trans h4, h5, fun i c hi => by
      obtain ⟨u, hu, h1c, hb⟩ := h6 i c hi
      exact ⟨u, hu, h1c, hb.chg hc (ht2 k i)⟩⟩⟩

end Go.Pv
