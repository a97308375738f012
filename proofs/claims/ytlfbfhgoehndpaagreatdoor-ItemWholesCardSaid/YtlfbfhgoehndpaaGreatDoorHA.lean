/- The library of this work, H texts, part A: Go's values as pure values; objects with owners. -/
import Derived.Test.YtlfbfhgoehndpaaGreatDoorHA0
import Derived.Calls
import Derived.Below
import Derived.WalkKit
import Derived.Laws.AppendOwn
import Derived.Laws.MakeOwn
import Derived.Laws.OwnMore
import Derived.KernelRfl
import Derived.Laws.StructEq
import Derived.Laws.Strings
import Derived.Laws.IdiomStrings
set_option linter.unusedVariables false
set_option linter.unusedSimpArgs false
namespace Go.Pv

/-- Keys of maps. -/
inductive MKey where
  | str (s : ByteArray)
  | int (k : IntKind) (n : Int)
  | bool (b : Bool)
  | strs (l : List ByteArray)
  deriving DecidableEq

def MKey.val : MKey → Value
  | .str s => .string s
  | .int k n => .int k n
  | .bool b => .bool b
  | .strs l => .agg (l.map Value.string).toArray

/-- Keys of one kind. -/
def sameK : MKey → MKey → Bool
  | .str _, .str _ => true
  | .int k _, .int k' _ => decide (k = k')
  | .bool _, .bool _ => true
  | .strs l, .strs l' => Nat.beq l.length l'.length
  | _, _ => false

/-- Pure values. ref, ptr, eref lead to objects; a hold stands in an object and is owned with it. -/
inductive MV where
  | bool (b : Bool)
  | int (k : IntKind) (n : Int)
  | str (s : ByteArray)
  | agg (cs : List MV)
  | tup (vs : List MV)
  | list (es : List (List MV))
  | nil
  | fn (f : FuncId) (cap : List MV)
  | nilfn
  | ptr (b off : Nat)
  | ref (b : Nat)
  | eref (b sz i off : Nat)
  | cptr (cs : List MV) (off : Nat)
  | nilptr
  | map (m : List (MKey × MV))
  | ifc (t : TypeId) (v : MV)
  | nilifc
  | seq (f : FuncId) (v : MV)
  | hold (dp : Bool) (sz : Nat) (v : MV)
  | gone
  deriving Inhabited

mutual
/-- A value that leads to no object. (Lists, maps and frozen cells never do.) -/
def np : MV → Bool
  | .agg cs => npL cs
  | .tup cs => npL cs
  | .fn _ cs => npL cs
  | .ifc _ v => np v
  | .ptr _ _ => false
  | .ref _ => false
  | .eref _ _ _ _ => false
  | .hold _ _ _ => false
  | .gone => false
  | _ => true
def npL : List MV → Bool
  | [] => true
  | m :: r => np m && npL r
end

theorem npL_get : ∀ {cs : List MV}, npL cs = true → ∀ (i : Nat) (c : MV), cs[i]? = some c → np c = true
  | [], _, i, c, hi => by simp at hi
  | m :: r, h, i, c, hi => by
    simp only [npL, Bool.and_eq_true] at h
    cases i with
    | zero => simp at hi; subst hi; exact h.1
    | succ i => exact npL_get h.2 i c (by simpa using hi)
theorem npL_iff : ∀ {cs : List MV}, npL cs = true ↔ ∀ c ∈ cs, np c = true
  | [] => by simp [npL]
  | m :: r => by simp [npL, npL_iff (cs := r)]

/-- Who holds a block: an object, below a way. -/
inductive Owner where
  | ob (k : Nat) (p : List (Nat × Nat))
  | outer
  deriving DecidableEq

abbrev Own := Nat → Option Owner

section
variable (γ : List Value) (ω : Own) (w : World)

/-- A value of the model is a pure value. -/
inductive Rep : MV → Value → Prop where
  | bool (b : Bool) : Rep (.bool b) (.bool b)
  | int (k : IntKind) (n : Int) : Rep (.int k n) (.int k n)
  | str (s : ByteArray) : Rep (.str s) (.string s)
  | agg (cs : List MV) (vs : List Value) (hl : vs.length = cs.length) (h : ∀ (i : Nat) (c : MV) (v : Value), cs[i]? = some c → vs[i]? = some v → Rep c v)
      (h1 : ∀ v ∈ vs, v.oneCell' = true) : Rep (.agg cs) (.agg vs.toArray)
  | tup (cs : List MV) (vs : List Value) (hl : vs.length = cs.length) (h : ∀ (i : Nat) (c : MV) (v : Value), cs[i]? = some c → vs[i]? = some v → Rep c v) : Rep (.tup cs) (.tuple vs.toArray)
  | list (es : List (List MV)) (sz blk o cap : Nat) (us : Nat → Nat → Value) (hcap : es.length ≤ cap) (hω : ω blk = none) (hlt : blk < w.heap.size)
      (hsz : ∀ e ∈ es, e.length = sz) (hn : ∀ e ∈ es, npL e = true)
      (hc : ∀ (j : Nat) (e : List MV), es[j]? = some e → ∀ (i : Nat) (c : MV), e[i]? = some c → w.cell? ⟨blk, o + (j * sz + i), none⟩ = some (us j i) ∧ (us j i).oneCell' = true)
      (h : ∀ (j : Nat) (e : List MV), es[j]? = some e → ∀ (i : Nat) (c : MV), e[i]? = some c → Rep c (us j i)) :
      Rep (.list es) (.slice (some ⟨blk, o, none⟩) es.length cap)
  | list0 (a : Option Addr) (cap : Nat) : Rep (.list []) (.slice a 0 cap)
  | nil : Rep .nil (.slice none 0 0)
  | fn (f : FuncId) (cs : List MV) (vs : List Value) (hl : vs.length = cs.length) (h : ∀ (i : Nat) (c : MV) (v : Value), cs[i]? = some c → vs[i]? = some v → Rep c v) :
      Rep (.fn f cs) (.func (.func f) #[] vs.toArray)
  | nilfn : Rep .nilfn .nilFunc
  | ptr (b off blk : Nat) (hb : γ[b]? = some (.pointer (some ⟨blk, 0, none⟩))) : Rep (.ptr b off) (.pointer (some ⟨blk, off, none⟩))
  | ref (b : Nat) (v : Value) (hb : γ[b]? = some v) (h1 : v.oneCell' = true) (h2 : v.cells = #[v]) : Rep (.ref b) v
  | eref (b sz i off blk len cap : Nat) (hb : γ[b]? = some (.slice (some ⟨blk, 0, none⟩) len cap)) : Rep (.eref b sz i off) (.pointer (some ⟨blk, i * sz + off, none⟩))
  | cptr (cs : List MV) (off blk o : Nat) (us : Nat → Value) (hω : ω blk = none) (hlt : blk < w.heap.size) (hn : npL cs = true)
      (hc : ∀ (i : Nat) (c : MV), cs[i]? = some c → w.cell? ⟨blk, o + i, none⟩ = some (us i) ∧ (us i).oneCell' = true)
      (h : ∀ (i : Nat) (c : MV), cs[i]? = some c → Rep c (us i)) : Rep (.cptr cs off) (.pointer (some ⟨blk, o + off, none⟩))
  | nilptr : Rep .nilptr (.pointer none)
  | map (m : List (MKey × MV)) (blk : Nat) (es : List MapEntry) (clock : Nat) (hω : ω blk = none) (hb : w.heap[blk]? = some (.map es.toArray clock)) (hl : es.length = m.length)
      (hn : ∀ x ∈ m, np x.2 = true)
      (hk : ∀ (i : Nat) (x : MKey × MV) (e : MapEntry), m[i]? = some x → es[i]? = some e → e.key = x.1.val)
      (hv : ∀ (i : Nat) (x : MKey × MV) (e : MapEntry), m[i]? = some x → es[i]? = some e → Rep x.2 e.val) (hlt : blk < w.heap.size)
      (hbn : ∀ e ∈ es, e.born < clock) (hnd : (es.map (·.born)).Nodup) (hh : ∀ x ∈ m, ∀ y ∈ m, sameK x.1 y.1 = true) :
      Rep (.map m) (.map (some blk))
  | map0 : Rep (.map []) (.map none)
  | ifc (t : TypeId) (c : MV) (v : Value) (h : Rep c v) : Rep (.ifc t c) (.iface t v)
  | nilifc : Rep .nilifc .nilIface
  | seq (f : FuncId) (c : MV) (blk : Nat) (u : Value) (hω : ω blk = none) (hlt : blk < w.heap.size) (hn : np c = true) (hc : w.cell? ⟨blk, 0, none⟩ = some u) (h1 : u.oneCell' = true) (h : Rep c u) :
      Rep (.seq f c) (.func (.func f) #[] #[.pointer (some ⟨blk, 0, none⟩)])
  | gone (v : Value) : Rep .gone v

/-- A cell of an object: what it holds is owned below N. -/
inductive CellT : (List (Nat × Nat) → Owner) → MV → Value → Prop where
  | rep (N : List (Nat × Nat) → Owner) (m : MV) (v : Value) (hn : np m = true) (h : Rep γ ω w m v) : CellT N m v
  | row (N : List (Nat × Nat) → Owner) (dp : Bool) (sz : Nat) (es : List (List MV)) (v : Value) (e : TypeId) (xs : List Value) (us : Nat → Nat → Value)
      (hr : w.ownsRow 0 e sz v es.length xs) (hl : xs.length = es.length * sz) (hw : ∀ y ∈ es, y.length = sz) (h1 : ∀ u ∈ xs, u.oneCell' = true)
      (hx : ∀ (j : Nat) (y : List MV) (i : Nat) (c : MV), es[j]? = some y → y[i]? = some c → xs[j * sz + i]? = some (us j i))
      (hc : ∀ (j : Nat) (y : List MV) (i : Nat) (c : MV), es[j]? = some y → y[i]? = some c → CellT (fun p => N ((j, i) :: p)) c (us j i))
      (hd : ∀ (j : Nat) (y : List MV) (i : Nat) (c : MV), es[j]? = some y → y[i]? = some c → dp = false → np c = true)
      (ho : ∀ b, v.ownBlock = some b → ω b = some (N []) ∧ b < w.heap.size) : CellT N (.hold dp sz (.list es)) v
  | map (N : List (Nat × Nat) → Owner) (dp : Bool) (sz : Nat) (m : List (MKey × MV)) (blk : Nat) (es : List MapEntry) (clock : Nat) (ho : ω blk = some (N [])) (hlt : blk < w.heap.size) (hb : w.heap[blk]? = some (.map es.toArray clock)) (hl : es.length = m.length)
      (hk : ∀ (i : Nat) (x : MKey × MV) (e : MapEntry), m[i]? = some x → es[i]? = some e → e.key = x.1.val)
      (hv : ∀ (i : Nat) (x : MKey × MV) (e : MapEntry), m[i]? = some x → es[i]? = some e → CellT (fun p => N ((e.born, 0) :: p)) x.2 e.val)
      (hbn : ∀ e ∈ es, e.born < clock) (hnd : (es.map (·.born)).Nodup) (hh : ∀ x ∈ m, ∀ y ∈ m, sameK x.1 y.1 = true)
      (hd : ∀ x ∈ m, dp = false → np x.2 = true) : CellT N (.hold dp sz (.map m)) (.map (some blk))
end

/-- Objects. A focus is a cell that is an object by itself for a while. -/
inductive Ob where
  | box (cs : List MV)
  | row (dp : Bool) (sz : Nat) (es : List (List MV)) (foc : List (Nat × Nat × Nat))
  | map (dp : Bool) (m : List (MKey × MV)) (foc : List (Nat × Nat))
  | siter (s : ByteArray) (pos : Nat)
  | miter (rem : List (MKey × MV))
  | bld (s : ByteArray)
  deriving Inhabited

abbrev Bxs := List (Option Ob)

structure St where
  v : List (Nat × MV)
  B : Bxs

def lk : List (Nat × MV) → Nat → MV
  | [], _ => .gone
  | (k, c) :: r, s => if k = s then c else lk r s
def pt : List (Nat × MV) → Nat → MV → List (Nat × MV)
  | [], s, c => [(s, c)]
  | (k, x) :: r, s, c => if k = s then (k, c) :: r else (k, x) :: pt r s c

theorem lk_pt (v : List (Nat × MV)) (s : Nat) (c : MV) (t : Nat) : lk (pt v s c) t = if s = t then c else lk v t := by
  induction v with
  | nil => simp [pt, lk]
  | cons x r ih =>
    obtain ⟨k, y⟩ := x
    by_cases h : k = s
    · subst h; simp [pt, lk]; split <;> rfl
    · simp only [pt, h, if_false, lk, ih]
      by_cases h2 : k = t
      · subst h2; simp [Ne.symm h]
      · simp [h2]

def lkF : List (Nat × Nat × Nat) → Nat → Nat → Option Nat
  | [], _, _ => none
  | (j, i, k) :: r, j', i' => if j = j' ∧ i = i' then some k else lkF r j' i'
def lkK : List (Nat × Nat) → Nat → Option Nat
  | [], _ => none
  | (x, k) :: r, y => if x = y then some k else lkK r y

section
variable (γ : List Value) (ω : Own) (w : World)

/-- A row that an object is. -/
structure RowR (N : List (Nat × Nat) → Owner) (foc : List (Nat × Nat × Nat)) (dp : Bool) (sz : Nat) (es : List (List MV)) (v : Value) (e : TypeId) (xs : List Value) : Prop where
  own : w.ownsRow 0 e sz v es.length xs
  len : xs.length = es.length * sz
  wid : ∀ y ∈ es, y.length = sz
  one : ∀ u ∈ xs, u.oneCell' = true
  cell : ∀ (j : Nat) (y : List MV) (i : Nat) (c : MV), es[j]? = some y → y[i]? = some c → ∃ u, xs[j * sz + i]? = some u ∧
    (match lkF foc j i with
    | some k => γ[k]? = some u
    | none => (dp = false → np c = true) ∧ CellT γ ω w (fun p => N ((j, i) :: p)) c u)
  blk : ∀ b, v.ownBlock = some b → ω b = some (N []) ∧ b < w.heap.size

structure MapR (N : List (Nat × Nat) → Owner) (foc : List (Nat × Nat)) (dp : Bool) (m : List (MKey × MV)) (blk : Nat) (es : List MapEntry) (clock : Nat) : Prop where
  own : ω blk = some (N [])
  lt : blk < w.heap.size
  heap : w.heap[blk]? = some (.map es.toArray clock)
  len : es.length = m.length
  key : ∀ (i : Nat) (x : MKey × MV) (e : MapEntry), m[i]? = some x → es[i]? = some e → e.key = x.1.val
  val : ∀ (i : Nat) (x : MKey × MV) (e : MapEntry), m[i]? = some x → es[i]? = some e →
    (match lkK foc i with
    | some k => γ[k]? = some e.val
    | none => (dp = false → np x.2 = true) ∧ CellT γ ω w (fun p => N ((e.born, 0) :: p)) x.2 e.val)
  born : ∀ e ∈ es, e.born < clock
  nodup : (es.map (·.born)).Nodup
  same : ∀ x ∈ m, ∀ y ∈ m, sameK x.1 y.1 = true

/-- An object as it lies in the model's memory; h: the value that leads to it. -/
def ObR (k : Nat) : Ob → Value → Prop
  | .box cs, h => ∃ blk cur e, h = .pointer (some ⟨blk, 0, none⟩) ∧ blk < w.heap.size ∧ ω blk = some (.ob k []) ∧ w.heap[blk]? = some (.cells cur e (0, 0)) ∧ cur.size = cs.length ∧
      ∀ (i : Nat) (c : MV), cs[i]? = some c → ∃ u, cur[i]? = some u ∧ u.oneCell' = true ∧ Rep γ ω w c u
  | .row dp sz es foc, h => ∃ e xs, RowR γ ω w (.ob k) foc dp sz es h e xs
  | .map dp m foc, h => ∃ blk es clock, h = .map (some blk) ∧ MapR γ ω w (.ob k) foc dp m blk es clock
  | .siter s pos, h => ∃ blk, h = .pointer (some ⟨blk, 0, none⟩) ∧ ω blk = some (.ob k []) ∧ blk < w.heap.size ∧ w.heap[blk]? = some (.stringIter s pos)
  | .bld s, h => ∃ blk p v, h = .pointer (some ⟨blk, 0, none⟩) ∧ blk < w.heap.size ∧ ω blk = some (.ob k []) ∧ w.heap[blk]? = some (.cells #[p, v] bldT (0, 0)) ∧ (p = .pointer none ∨ p = .pointer (some ⟨blk, 0, none⟩)) ∧
      w.ownsRow 0 bldE 1 v s.size (Go.Lib.strCells s) ∧ ∀ b, v.ownBlock = some b → ω b = some (.ob k [(0, 0)]) ∧ b < w.heap.size
  | .miter rem, h => ∃ blk mb since seen last, h = .pointer (some ⟨blk, 0, none⟩) ∧ ω blk = some (.ob k []) ∧ blk < w.heap.size ∧ w.heap[blk]? = some (.mapIter mb since seen last) ∧
      ((mb = none ∧ rem = []) ∨ ∃ b es, mb = some b ∧ ω b = none ∧ b < w.heap.size ∧ w.heap[b]? = some (.map es since) ∧ last = since ∧ (∀ e ∈ es.toList, e.born < since) ∧
        (es.toList.filter fun e => !seen.contains e.born).length = rem.length ∧
        ∀ (i : Nat) (x : MKey × MV) (e : MapEntry), rem[i]? = some x → (es.toList.filter fun e => !seen.contains e.born)[i]? = some e → e.key = x.1.val ∧ np x.2 = true ∧ Rep γ ω w x.2 e.val)

/-- What is known of package variables: it was so in some world of which all that was there is as it was. -/
def GOk : Prop := ∃ w0 : World, GP w0 ∧ ∀ b, b < w0.heap.size → ω b = none ∧ w.heap[b]? = w0.heap[b]?

structure Rel (nt : Nat) (st : St) (a : Act) : Prop where
  size : a.tmps.size = nt
  defers : a.defers = []
  lt : ∀ b, w.heap.size ≤ b → ω b = none
  gl : GOk ω w
  len : γ.length = st.B.length
  slots : ∀ s, Rep γ ω w (lk st.v s) (a.tmps.getD s undef)
  objs : ∀ (k : Nat) (o : Ob), st.B[k]? = some (some o) → ∃ h, γ[k]? = some h ∧ ObR γ ω w k o h
end

/-- From one moment to a later one; what T names may have changed. -/
structure Chg (T : Owner → Prop) (γ : List Value) (ω : Own) (w : World) (γ' : List Value) (ω' : Own) (w' : World) : Prop where
  os : w'.os = w.os
  tape : w'.tape = w.tape
  output : w'.output = w.output
  size : w.heap.size ≤ w'.heap.size
  pre : ∀ (k : Nat) (v : Value), γ[k]? = some v → γ'[k]? = some v
  none : ∀ b, b < w.heap.size → ω b = none → w'.heap[b]? = w.heap[b]? ∧ ω' b = none
  keep : ∀ b o, b < w.heap.size → ω b = some o → ¬ T o → w'.heap[b]? = w.heap[b]? ∧ ω' b = some o

theorem Chg.refl (T : Owner → Prop) (γ : List Value) (ω : Own) (w : World) : Chg T γ ω w γ ω w :=
  ⟨rfl, rfl, rfl, Nat.le_refl _, fun _ _ h => h, fun _ _ h => ⟨rfl, h⟩, fun _ _ _ h _ => ⟨rfl, h⟩⟩

theorem Chg.trans {T : Owner → Prop} {γ γ1 γ2 : List Value} {ω ω1 ω2 : Own} {w w1 w2 : World} (h : Chg T γ ω w γ1 ω1 w1) (h2 : Chg T γ1 ω1 w1 γ2 ω2 w2) : Chg T γ ω w γ2 ω2 w2 :=
  ⟨h2.os.trans h.os, h2.tape.trans h.tape, h2.output.trans h.output, Nat.le_trans h.size h2.size, fun k b hk => h2.pre k b (h.pre k b hk),
   fun b hb h0 => by
    obtain ⟨e1, o1⟩ := h.none b hb h0
    obtain ⟨e2, o2⟩ := h2.none b (Nat.lt_of_lt_of_le hb h.size) o1
    exact ⟨e2.trans e1, o2⟩,
   fun b o hb h0 ht => by
    obtain ⟨e1, o1⟩ := h.keep b o hb h0 ht
    obtain ⟨e2, o2⟩ := h2.keep b o (Nat.lt_of_lt_of_le hb h.size) o1 ht
    exact ⟨e2.trans e1, o2⟩⟩

theorem Chg.mono {T T' : Owner → Prop} {γ γ1 : List Value} {ω ω1 : Own} {w w1 : World} (h : Chg T γ ω w γ1 ω1 w1) (ht : ∀ o, T o → T' o) : Chg T' γ ω w γ1 ω1 w1 :=
  ⟨h.os, h.tape, h.output, h.size, h.pre, h.none, fun b o hb h0 hn => h.keep b o hb h0 (fun hT => hn (ht o hT))⟩

theorem cell_of_heap {w w' : World} {b : Nat} (h : w'.heap[b]? = w.heap[b]?) (off : Nat) : w'.cell? ⟨b, off, none⟩ = w.cell? ⟨b, off, none⟩ := by simp [World.cell?, h]

/-- What is shared stays shared, and as it was. -/
structure Keeps (γ : List Value) (ω : Own) (w : World) (γ' : List Value) (ω' : Own) (w' : World) : Prop where
  pre : ∀ (k : Nat) (v : Value), γ[k]? = some v → γ'[k]? = some v
  size : w.heap.size ≤ w'.heap.size
  none : ∀ b, b < w.heap.size → ω b = none → w'.heap[b]? = w.heap[b]? ∧ ω' b = none

theorem Chg.keeps {T : Owner → Prop} {γ γ' : List Value} {ω ω' : Own} {w w' : World} (h : Chg T γ ω w γ' ω' w') : Keeps γ ω w γ' ω' w' := ⟨h.pre, h.size, h.none⟩

theorem Keeps.refl (γ : List Value) (ω : Own) (w : World) : Keeps γ ω w γ ω w := ⟨fun _ _ h => h, Nat.le_refl _, fun _ _ h => ⟨rfl, h⟩⟩
theorem Keeps.trans {γ γ1 γ2 : List Value} {ω ω1 ω2 : Own} {w w1 w2 : World} (h : Keeps γ ω w γ1 ω1 w1) (h2 : Keeps γ1 ω1 w1 γ2 ω2 w2) : Keeps γ ω w γ2 ω2 w2 :=
  ⟨fun k v q => h2.pre k v (h.pre k v q), Nat.le_trans h.size h2.size, fun b hb h0 => by
    obtain ⟨e1, o1⟩ := h.none b hb h0
    obtain ⟨e2, o2⟩ := h2.none b (Nat.lt_of_lt_of_le hb h.size) o1
    exact ⟨e2.trans e1, o2⟩⟩
theorem GOk.keeps {γ γ' : List Value} {ω ω' : Own} {w w' : World} (hc : Keeps γ ω w γ' ω' w') (h : GOk ω w) : GOk ω' w' := by
  obtain ⟨w0, h0, h1⟩ := h
  refine ⟨w0, h0, fun b hb => ?_⟩
  obtain ⟨g1, g2⟩ := h1 b hb
  have hlt : b < w.heap.size := by
    rw [Array.getElem?_eq_getElem hb] at g2
    exact (Array.getElem?_eq_some_iff.1 g2).1
  obtain ⟨f1, f2⟩ := hc.none b hlt g1
  exact ⟨f2, f1.trans g2⟩

theorem Rep.keeps {γ γ' : List Value} {ω ω' : Own} {w w' : World} (hc : Keeps γ ω w γ' ω' w') {m : MV} {v : Value} (h : Rep γ ω w m v) : Rep γ' ω' w' m v := by
  induction h with
  | bool b => exact .bool b
  | int k n => exact .int k n
  | str s => exact .str s
  | agg cs vs hl _ h1 ih => exact .agg cs vs hl ih h1
  | tup cs vs hl _ ih => exact .tup cs vs hl ih
  | list es sz blk o cap us hcap hω hlt hsz hn hcell _ ih =>
    obtain ⟨e, hω'⟩ := hc.none blk hlt hω
    exact .list es sz blk o cap us hcap hω' (Nat.lt_of_lt_of_le hlt hc.size) hsz hn (fun j x hj i c hi => by rw [cell_of_heap e]; exact hcell j x hj i c hi) ih
  | list0 a cap => exact .list0 a cap
  | nil => exact .nil
  | fn f cs vs hl _ ih => exact .fn f cs vs hl ih
  | nilfn => exact .nilfn
  | ptr b off blk hb => exact .ptr b off blk (hc.pre _ _ hb)
  | ref b v hb h1 h2 => exact .ref b v (hc.pre _ _ hb) h1 h2
  | eref b sz i off blk len cap hb => exact .eref b sz i off blk len cap (hc.pre _ _ hb)
  | cptr cs off blk o us hω hlt hn hcell _ ih =>
    obtain ⟨e, hω'⟩ := hc.none blk hlt hω
    exact .cptr cs off blk o us hω' (Nat.lt_of_lt_of_le hlt hc.size) hn (fun i c hi => by rw [cell_of_heap e]; exact hcell i c hi) ih
  | nilptr => exact .nilptr
  | map m blk es clock hω hb hl hn hk _ hlt hbn hnd hh ih =>
    obtain ⟨e, hω'⟩ := hc.none blk hlt hω
    exact .map m blk es clock hω' (e.trans hb) hl hn hk ih (Nat.lt_of_lt_of_le hlt hc.size) hbn hnd hh
  | map0 => exact .map0
  | ifc t c v _ ih => exact .ifc t c v ih
  | nilifc => exact .nilifc
  | seq f c blk u hω hlt hn hcell h1 _ ih =>
    obtain ⟨e, hω'⟩ := hc.none blk hlt hω
    exact .seq f c blk u hω' (Nat.lt_of_lt_of_le hlt hc.size) hn (by rw [cell_of_heap e]; exact hcell) h1 ih
  | gone v => exact .gone v

theorem Rep.chg {T : Owner → Prop} {γ γ' : List Value} {ω ω' : Own} {w w' : World} (hc : Chg T γ ω w γ' ω' w') {m : MV} {v : Value} (h : Rep γ ω w m v) : Rep γ' ω' w' m v := h.keeps hc.keeps

/-- A value that leads to no object does not ask where they are. -/
theorem Rep.npg {γ γ' : List Value} {ω : Own} {w : World} {m : MV} {v : Value} (h : Rep γ ω w m v) (hn : np m = true) : Rep γ' ω w m v := by
  induction h with
  | bool b => exact .bool b
  | int k n => exact .int k n
  | str s => exact .str s
  | agg cs vs hl _ h1 ih => exact .agg cs vs hl (fun i c v hc hv => ih i c v hc hv (npL_get (by simpa [np] using hn) i c hc)) h1
  | tup cs vs hl _ ih => exact .tup cs vs hl (fun i c v hc hv => ih i c v hc hv (npL_get (by simpa [np] using hn) i c hc))
  | list es sz blk o cap us hcap hω hlt hsz hn2 hcell _ ih => exact .list es sz blk o cap us hcap hω hlt hsz hn2 hcell (fun j e hj i c hi => ih j e hj i c hi (npL_get (hn2 e (List.mem_of_getElem? hj)) i c hi))
  | list0 a cap => exact .list0 a cap
  | nil => exact .nil
  | fn f cs vs hl _ ih => exact .fn f cs vs hl (fun i c v hc hv => ih i c v hc hv (npL_get (by simpa [np] using hn) i c hc))
  | nilfn => exact .nilfn
  | ptr b off blk hb => simp [np] at hn
  | ref b v hb h1 h2 => simp [np] at hn
  | eref b sz i off blk len cap hb => simp [np] at hn
  | cptr cs off blk o us hω hlt hn2 hcell _ ih => exact .cptr cs off blk o us hω hlt hn2 hcell (fun i c hi => ih i c hi (npL_get hn2 i c hi))
  | nilptr => exact .nilptr
  | map m blk es clock hω hb hl hn2 hk _ hlt hbn hnd hh ih => exact .map m blk es clock hω hb hl hn2 hk (fun i x e hx he => ih i x e hx he (hn2 x (List.mem_of_getElem? hx))) hlt hbn hnd hh
  | map0 => exact .map0
  | ifc t c v _ ih => exact .ifc t c v (ih (by simpa [np] using hn))
  | nilifc => exact .nilifc
  | seq f c blk u hω hlt hn2 hcell h1 _ ih => exact .seq f c blk u hω hlt hn2 hcell h1 (ih hn2)
  | gone v => simp [np] at hn

theorem ownsRow_heap {w w' : World} {e : TypeId} {sz n : Nat} {v : Value} {xs : List Value} (h : w.ownsRow 0 e sz v n xs) (hb : ∀ b, v.ownBlock = some b → w'.heap[b]? = w.heap[b]?) : w'.ownsRow 0 e sz v n xs := by
  obtain ⟨h1, h2⟩ := h
  refine ⟨h1, ?_⟩
  rcases h2 with h2 | ⟨g, cap, cur, rfl, hg, hh, r⟩
  · exact .inl h2
  · exact .inr ⟨g, cap, cur, rfl, hg, (hb g (by simp [Value.ownBlock])).trans hh, r⟩

/-- What is owned stays, where its owner's name goes over into another one. -/
theorem CellT.moved {γ γ' : List Value} {ω ω' : Own} {w w' : World} (hc : Keeps γ ω w γ' ω' w') {N : List (Nat × Nat) → Owner} {m : MV} {v : Value} (h : CellT γ ω w N m v) :
    ∀ {N' : List (Nat × Nat) → Owner}, (∀ p b, b < w.heap.size → ω b = some (N p) → w'.heap[b]? = w.heap[b]? ∧ ω' b = some (N' p)) → CellT γ' ω' w' N' m v := by
  induction h with
  | rep N m v hn h => intro N' _; exact .rep N' m v hn (h.keeps hc)
  | row N dp sz es v e xs us hr hl hw h1 hx _ hd ho ih =>
    intro N' hN
    exact .row N' dp sz es v e xs us (ownsRow_heap hr fun b hb => (hN [] b (ho b hb).2 (ho b hb).1).1) hl hw h1 hx (fun j y i c hj hi => ih j y i c hj hi (fun p b hb h0 => hN _ b hb h0)) hd
      (fun b hb => ⟨(hN [] b (ho b hb).2 (ho b hb).1).2, Nat.lt_of_lt_of_le (ho b hb).2 hc.size⟩)
  | map N dp sz m blk es clock ho hlt hb hl hk _ hbn hnd hh hd ih =>
    intro N' hN
    obtain ⟨e1, e2⟩ := hN [] blk hlt ho
    exact .map N' dp sz m blk es clock e2 (Nat.lt_of_lt_of_le hlt hc.size) (e1.trans hb) hl hk (fun i x e hx he => ih i x e hx he (fun p b hb h0 => hN _ b hb h0)) hbn hnd hh hd

theorem RowR.moved {γ γ' : List Value} {ω ω' : Own} {w w' : World} (hc : Keeps γ ω w γ' ω' w') {N N' : List (Nat × Nat) → Owner} {foc : List (Nat × Nat × Nat)} {dp : Bool} {sz : Nat} {es : List (List MV)} {v : Value} {e : TypeId} {xs : List Value} (h : RowR γ ω w N foc dp sz es v e xs)
    (hN : ∀ p b, b < w.heap.size → ω b = some (N p) → w'.heap[b]? = w.heap[b]? ∧ ω' b = some (N' p)) : RowR γ' ω' w' N' foc dp sz es v e xs := by
  refine ⟨ownsRow_heap h.own fun b hb => (hN [] b (h.blk b hb).2 (h.blk b hb).1).1, h.len, h.wid, h.one, fun j y i c hj hi => ?_, fun b hb => ⟨(hN [] b (h.blk b hb).2 (h.blk b hb).1).2, Nat.lt_of_lt_of_le (h.blk b hb).2 hc.size⟩⟩
  obtain ⟨u, hu, hr⟩ := h.cell j y i c hj hi
  refine ⟨u, hu, ?_⟩
  split at hr
  · exact hc.pre _ _ hr
  · exact ⟨hr.1, hr.2.moved hc (fun p b hb h0 => hN _ b hb h0)⟩

theorem MapR.moved {γ γ' : List Value} {ω ω' : Own} {w w' : World} (hc : Keeps γ ω w γ' ω' w') {N N' : List (Nat × Nat) → Owner} {foc : List (Nat × Nat)} {dp : Bool} {m : List (MKey × MV)} {blk : Nat} {es : List MapEntry} {clock : Nat} (h : MapR γ ω w N foc dp m blk es clock)
    (hN : ∀ p b, b < w.heap.size → ω b = some (N p) → w'.heap[b]? = w.heap[b]? ∧ ω' b = some (N' p)) : MapR γ' ω' w' N' foc dp m blk es clock := by
  obtain ⟨e1, e2⟩ := hN [] blk h.lt h.own
  refine ⟨e2, Nat.lt_of_lt_of_le h.lt hc.size, e1.trans h.heap, h.len, h.key, fun i x e hx he => ?_, h.born, h.nodup, h.same⟩
  have hr := h.val i x e hx he
  split at hr
  · exact hc.pre _ _ hr
  · exact ⟨hr.1, hr.2.moved hc (fun p b hb h0 => hN _ b hb h0)⟩

theorem ObR.moved {γ γ' : List Value} {ω ω' : Own} {w w' : World} (hc : Keeps γ ω w γ' ω' w') {k k' : Nat} {o : Ob} {h : Value} (hr : ObR γ ω w k o h)
    (hN : ∀ p b, b < w.heap.size → ω b = some (.ob k p) → w'.heap[b]? = w.heap[b]? ∧ ω' b = some (.ob k' p)) : ObR γ' ω' w' k' o h := by
  cases o with
  | box cs =>
    obtain ⟨blk, cur, e, h1, h2, h3, h4, h5, h6⟩ := hr
    obtain ⟨e1, e2⟩ := hN [] blk h2 h3
    exact ⟨blk, cur, e, h1, Nat.lt_of_lt_of_le h2 hc.size, e2, e1.trans h4, h5, fun i c hi => by obtain ⟨u, g1, g2, g3⟩ := h6 i c hi; exact ⟨u, g1, g2, g3.keeps hc⟩⟩
  | row dp sz es foc => obtain ⟨e, xs, h1⟩ := hr; exact ⟨e, xs, h1.moved hc hN⟩
  | map dp m foc => obtain ⟨blk, es, clock, h1, h2⟩ := hr; exact ⟨blk, es, clock, h1, h2.moved hc hN⟩
  | siter s pos =>
    obtain ⟨blk, h1, h2, h3, h4⟩ := hr
    obtain ⟨e1, e2⟩ := hN [] blk h3 h2
    exact ⟨blk, h1, e2, Nat.lt_of_lt_of_le h3 hc.size, e1.trans h4⟩
  | bld s =>
    obtain ⟨blk, p, v, h1, h2, h3, h4, h5, h6, h7⟩ := hr
    obtain ⟨e1, e2⟩ := hN [] blk h2 h3
    exact ⟨blk, p, v, h1, Nat.lt_of_lt_of_le h2 hc.size, e2, e1.trans h4, h5, ownsRow_heap h6 (fun b hb => (hN [(0, 0)] b (h7 b hb).2 (h7 b hb).1).1), fun b hb => ⟨(hN [(0, 0)] b (h7 b hb).2 (h7 b hb).1).2, Nat.lt_of_lt_of_le (h7 b hb).2 hc.size⟩⟩
  | miter rem =>
    obtain ⟨blk, mb, since, seen, last, h1, h2, h3, h4, h5⟩ := hr
    obtain ⟨e1, e2⟩ := hN [] blk h3 h2
    refine ⟨blk, mb, since, seen, last, h1, e2, Nat.lt_of_lt_of_le h3 hc.size, e1.trans h4, ?_⟩
    rcases h5 with h5 | ⟨b, es, g1, g2, g3, g4, g5, g6, g7, g8⟩
    · exact .inl h5
    · obtain ⟨f1, f2⟩ := hc.none b g3 g2
      exact .inr ⟨b, es, g1, f2, Nat.lt_of_lt_of_le g3 hc.size, f1.trans g4, g5, g6, g7, fun i x e hx he => ⟨(g8 i x e hx he).1, (g8 i x e hx he).2.1, (g8 i x e hx he).2.2.keeps hc⟩⟩

theorem ObR.chg {T : Owner → Prop} {γ γ' : List Value} {ω ω' : Own} {w w' : World} (hc : Chg T γ ω w γ' ω' w') {k : Nat} {o : Ob} {h : Value} (hr : ObR γ ω w k o h) (ht : ∀ p, ¬ T (.ob k p)) : ObR γ' ω' w' k o h :=
  hr.moved hc.keeps (fun p b hb h0 => hc.keep b _ hb h0 (ht p))

def St.put (st : St) (d : Nat) (c : MV) : St := { st with v := pt st.v d c }
def putO (st : St) : Option Tmp → MV → St
  | some d, c => st.put d c
  | none, _ => st

theorem getD_set {tmps : Array Value} {d s : Nat} {v : Value} (hd : d < tmps.size) : (tmps.setIfInBounds d v).getD s undef = if d = s then v else tmps.getD s undef := by
  simp only [Array.getD_eq_getD_getElem?, Array.getElem?_setIfInBounds, hd]
  by_cases h : d = s
  · simp [h]
  · simp [h]

section
variable {γ γ' : List Value} {ω ω' : Own} {w w' : World} {nt : Nat} {st : St} {a : Act}

theorem Rel.put (h : Rel γ ω w nt st a) {d : Nat} (hd : d < nt) {c : MV} {v : Value} (hc : Rep γ ω w c v) : Rel γ ω w nt (st.put d c) (a.put (some d) v) := by
  have hsz := h.size
  refine ⟨by simp [Act.put, hsz], h.defers, h.lt, h.gl, h.len, fun s => ?_, h.objs⟩
  show Rep γ ω w (lk (pt st.v d c) s) ((a.tmps.setIfInBounds d v).getD s undef)
  rw [lk_pt, getD_set (by omega)]
  split
  · exact hc
  · exact h.slots s

theorem Rel.putO (h : Rel γ ω w nt st a) {d : Option Tmp} (hd : ∀ t, d = some t → t < nt) {c : MV} {v : Value} (hc : Rep γ ω w c v) : Rel γ ω w nt (Go.Pv.putO st d c) (a.put d v) := by
  cases d with
  | none => exact h
  | some t => exact h.put (hd t rfl) hc

/-- What has turned is told anew; the rest is as it was. -/
theorem Rel.turn (h : Rel γ ω w nt st a) {T : Owner → Prop} (hc : Chg T γ ω w γ' ω' w') (hlt : ∀ b, w'.heap.size ≤ b → ω' b = none) {B' : Bxs} (hl : γ'.length = B'.length)
    (hB : ∀ (k : Nat) (o : Ob), B'[k]? = some (some o) → (st.B[k]? = some (some o) ∧ ∀ p, ¬ T (.ob k p)) ∨ ∃ hd, γ'[k]? = some hd ∧ ObR γ' ω' w' k o hd) : Rel γ' ω' w' nt ⟨st.v, B'⟩ a := by
  refine ⟨h.size, h.defers, hlt, h.gl.keeps hc.keeps, hl, fun s => (h.slots s).chg hc, fun k o hk => ?_⟩
  rcases hB k o hk with ⟨h1, h2⟩ | h1
  · obtain ⟨hd, g1, g2⟩ := h.objs k o h1
    exact ⟨hd, hc.pre _ _ g1, g2.chg hc h2⟩
  · exact h1

/-- Nothing of this frame has turned. -/
theorem Rel.grow (h : Rel γ ω w nt st a) (hc : Chg (fun _ => False) γ ω w γ ω' w') (hlt : ∀ b, w'.heap.size ≤ b → ω' b = none) : Rel γ ω' w' nt st a :=
  h.turn hc hlt h.len (fun k o hk => .inl ⟨hk, fun _ => id⟩)

/-- A new object. -/
theorem Rel.new (h : Rel γ ω w nt st a) {hd : Value} (hc : Chg (fun _ => False) γ ω w (γ ++ [hd]) ω' w') (hlt : ∀ b, w'.heap.size ≤ b → ω' b = none) {o : Ob} (ho : ObR (γ ++ [hd]) ω' w' γ.length o hd) : Rel (γ ++ [hd]) ω' w' nt ⟨st.v, st.B ++ [some o]⟩ a := by
  refine h.turn hc hlt (by simp [h.len]) (fun k o' hk => ?_)
  rcases Nat.lt_or_ge k st.B.length with hk1 | hk1
  · rw [List.getElem?_append_left hk1] at hk; exact .inl ⟨hk, fun _ => id⟩
  · rw [List.getElem?_append_right hk1] at hk
    have : k = γ.length := by
      have := (List.getElem?_eq_some_iff.1 hk).1
      simp at this; rw [h.len]; omega
    subst this
    rw [h.len] at hk; simp at hk; subst hk
    exact .inr ⟨hd, by simp, ho⟩

theorem Rel.obj (h : Rel γ ω w nt st a) {k : Nat} {o : Ob} (hk : st.B[k]? = some (some o)) : ∃ hd, γ[k]? = some hd ∧ ObR γ ω w k o hd := h.objs k o hk

theorem Rel.slot (h : Rel γ ω w nt st a) (t : Nat) {c : MV} (hc : lk st.v t = c) : Rep γ ω w c (a.eval (.tmp t)) := by
  have := h.slots t; rw [hc] at this; exact this
end
end Go.Pv
