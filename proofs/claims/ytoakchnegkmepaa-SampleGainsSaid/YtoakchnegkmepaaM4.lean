/- A library of this session: operations that read memory. -/
import Derived.Test.YtoakchnegkmepaaM3
set_option linter.unusedVariables false
set_option linter.unusedSimpArgs false
namespace Go.Pv

section
variable {P : Program} {γ : List Nat} {ω : Own} {w : World}

theorem run_loadFrom (b o : Nat) : ∀ (us : List Value) (i : Nat) (acc : Array Value), (∀ (j : Nat) (u : Value), us[j]? = some u → w.cell? ⟨b, o + (i + j), none⟩ = some u) →
    (loadCellsFrom ⟨b, o, none⟩ i us.length acc).run P w = .ok (acc ++ us.toArray) w
  | [], i, acc, h => by simp [loadCellsFrom]
  | u :: r, i, acc, h => by
    have h0 := h 0 u (by simp)
    have ih := run_loadFrom b o r (i + 1) (acc.push u) (fun j x hj => by
      have := h (j + 1) x (by simpa using hj)
      rw [show o + (i + 1 + j) = o + (i + (j + 1)) from by omega]
      exact this)
    simp only [List.length_cons, loadCellsFrom, Sem.run_bind, load, Sem.run, Addr.add_lit]
    simp only [Nat.add_zero] at h0
    rw [h0]
    simp only [Result.andThen_ok, ih]
    simp

theorem run_loadC (b o : Nat) (us : List Value) (h : ∀ (j : Nat) (u : Value), us[j]? = some u → w.cell? ⟨b, o + j, none⟩ = some u) :
    (loadCells ⟨b, o, none⟩ us.length).run P w = .ok us.toArray w := by
  have := run_loadFrom (P := P) (w := w) b o us 0 #[] (fun j u hj => by rw [Nat.zero_add]; exact h j u hj)
  simpa [loadCells] using this

theorem run_load1 (b o : Nat) (u : Value) (h : w.cell? ⟨b, o, none⟩ = some u) : (load ⟨b, o, none⟩).run P w = .ok u w := by
  simp [load, Sem.run, h]

theorem run_isAggT {T : TypeId} {ti : TI} (h : Ty P T ti) : (isAgg T).run P w = .ok (aggKd ti.kd) w := by
  obtain ⟨d, hd, hk⟩ := h.und
  unfold isAgg
  simp only [Sem.run_bind, run_underlying hd, Result.andThen_ok]
  rw [← hk]
  cases d <;> rfl

theorem run_sizeT {T : TypeId} {ti : TI} (h : Ty P T ti) : (sizeOf T).run P w = .ok ti.size w := by
  obtain ⟨i, z, h1, h2, _⟩ := h.info
  simp [sizeOf, typeInfo, h1, h2]

theorem run_zeroT {T : TypeId} {ti : TI} (h : Ty P T ti) : ∃ z, (zeroValue T).run P w = .ok z w ∧ zerosOf z.cells.toList = some ti.zero ∧ isAggV z = aggKd ti.kd := by
  obtain ⟨i, z, h1, h2, h3, h4, h5, h6, h7⟩ := h.info
  exact ⟨z, by simp [zeroValue, typeInfo, h1, h4], h5, h7⟩

/-- What is loaded at a known address. -/
theorem run_loadVarT {T : TypeId} {ti : TI} (h : Ty P T ti) (hna : aggKd ti.kd = false) (b o : Nat) (u : Value) (hu : w.cell? ⟨b, o, none⟩ = some u) : (loadVar T ⟨b, o, none⟩).run P w = .ok u w := by
  simp [loadVar, run_isAggT h, hna, load, Sem.run, hu]

theorem run_loadVarA {T : TypeId} {ti : TI} (h : Ty P T ti) (hna : aggKd ti.kd = true) (b o : Nat) (us : List Value) (hl : us.length = ti.size) (hu : ∀ (j : Nat) (u : Value), us[j]? = some u → w.cell? ⟨b, o + j, none⟩ = some u) :
    (loadVar T ⟨b, o, none⟩).run P w = .ok (.agg us.toArray) w := by
  simp [loadVar, run_isAggT h, hna, run_sizeT h, ← hl, run_loadC b o us hu]

end

/-! ### The operations -/
def movP (st : St) (x : Operand) (K : Ct → Prop) : Prop :=
  match x with
  | .tmp t => match lk st.v t with
    | .sh m => K (.sh m)
    | .own _ _ => K (.al (.slot t))
    | .al p => K (.al p)
    | .eadr p i o => K (.eadr p i o)
    | .tupc cs => (cs.all fun c => c.1.isNone) = true ∧ K (.tupc cs)
    | _ => False
  | .const v => match mvConst v with
    | some m => K (.sh m)
    | none => False
  | .func f => K (.sh (.fn f []))
  | .global _ => False

def unP (op : UnOp) (x : MV) (K : MV → Prop) : Prop :=
  match op, x with
  | .not, .bool b => K (.bool (!b))
  | .neg, .int k n => K (.int k (k.wrap (0 - n)))
  | .xor, .int k n => K (.int k (bitI .xor k (if k.signed then -1 else k.max) n))
  | _, _ => False

def convP (P : Program) (s d : TypeId) (x : MV) (K : MV → Prop) : Prop :=
  match kdOf P d, x with
  | .int k, .int _ n => kdOf P s ≠ .other ∧ K (.int k (k.wrap n))
  | .str, .int _ n => kdOf P s ≠ .other ∧ K (.str (Utf8.encode n))
  | .str, .str a => kdOf P s ≠ .other ∧ K (.str a)
  | _, _ => False

/-- The cells of a value of type T that stand from off on. -/
def cutC (ti : TI) (cs : List MV) (off : Nat) (K : MV → Prop) : Prop :=
  if aggKd ti.kd = true then off + ti.size ≤ cs.length ∧ K (.agg ((cs.drop off).take ti.size))
  else match cs[off]? with
    | some c => K c
    | none => False

def shs : List Ct → Option (List MV)
  | [] => some []
  | .sh m :: r => (shs r).map (m :: ·)
  | _ => none

def loadP (P : Program) (st : St) (T : TypeId) (x : Operand) (K : Ct → Prop) : Prop :=
  match tiOf P T with
  | none => False
  | some ti =>
    match x with
    | .tmp t => match lk st.v t with
      | .sh (.cptr cs off) => cutC ti cs off (fun m => K (.sh m))
      | .sh (.ptr k off) => match st.B[k]? with
        | some (some cs) =>
          if aggKd ti.kd = true then (match shs ((cs.drop off).take ti.size) with
            | some ms => off + ti.size ≤ cs.length ∧ K (.sh (.agg ms))
            | none => False)
          else (match cs[off]? with
            | some (.sh m) => K (.sh m)
            | some (.own _ _) => K (.al (.cell k off))
            | _ => False)
        | _ => False
      | .eadr p i off => match st.at p with
        | .own sz (.list es) => match es[i]? with
          | some e => cutC ti e off (fun m => K (.sh m))
          | none => False
        | _ => False
      | _ => False
    | _ => False

def fieldOf (P : Program) (T : TypeId) (f : Nat) : Option (Nat × TypeId) :=
  match kdOf P T with
  | .strct fs => fs[f]?
  | _ => none

def szOf (P : Program) (T : TypeId) : Nat := match tiOf P T with | some ti => ti.size | none => 0

def faP (P : Program) (st : St) (T : TypeId) (x : Operand) (f : Nat) (K : Ct → Prop) : Prop :=
  match fieldOf P T f with
  | some (o, fT) => szOf P fT ≠ 0 ∧ (match x with
    | .tmp t => match lk st.v t with
      | .sh (.cptr cs off) => K (.sh (.cptr cs (off + o)))
      | .sh (.ptr k off) => K (.sh (.ptr k (off + o)))
      | .eadr p i off => K (.eadr p i (off + o))
      | _ => False
    | _ => False)
  | none => False

def fieldP (P : Program) (st : St) (T : TypeId) (x : Operand) (f : Nat) (K : MV → Prop) : Prop :=
  match fieldOf P T f with
  | some (o, fT) => match tiOf P fT with
    | some ti => match opv st x with
      | some (.agg cs) => cutC ti cs o K
      | _ => False
    | none => False
  | none => False

/-- The element's address. -/
def iaP (P : Program) (st : St) (T : TypeId) (x i : Operand) (K : Ct → Prop) : Prop :=
  match kdOf P T with
  | .slice eT => match opv st i with
    | some (.int _ n) => 0 ≤ n ∧ szOf P eT ≠ 0 ∧ (match x with
      | .tmp t => match lk st.v t with
        | .sh (.list es) => ∃ e, es[n.toNat]? = some e ∧ e.length = szOf P eT ∧ K (.sh (.cptr e 0))
        | .al p => match st.at p with
          | .own sz (.list es) => n.toNat < es.length ∧ sz = szOf P eT ∧ K (.eadr p n.toNat 0)
          | _ => False
        | .own sz (.list es) => n.toNat < es.length ∧ sz = szOf P eT ∧ K (.eadr (.slot t) n.toNat 0)
        | _ => False
      | _ => False)
    | _ => False
  | _ => False

def bAt (s : ByteArray) (i : Nat) : Int := ((s.data.getD i 0).toNat : Int)

def idxP (P : Program) (st : St) (T : TypeId) (x i : Operand) (K : MV → Prop) : Prop :=
  match kdOf P T with
  | .str => match opv st x, opv st i with
    | some (.str s), some (.int _ n) => 0 ≤ n ∧ n.toNat < s.size ∧ K (.int .u8 (bAt s n.toNat))
    | _, _ => False
  | _ => False

/-- A bound of a slice expression. -/
def bndOf (st : St) (d : Nat) : Option Operand → Option Int
  | none => some d
  | some x => match opv st x with
    | some (.int _ n) => some n
    | _ => none

def sliceP (P : Program) (st : St) (T : TypeId) (x : Operand) (lo hi : Option Operand) (K : MV → Prop) : Prop :=
  match kdOf P T with
  | .str => match opv st x with
    | some (.str s) => match bndOf st 0 lo, bndOf st s.size hi with
      | some l, some h => 0 ≤ l ∧ l ≤ h ∧ h ≤ (s.size : Int) ∧ K (.str (s.extract l.toNat h.toNat))
      | _, _ => False
    | _ => False
  | .slice eT => match x with
    | .tmp t => match lk st.v t with
      | .sh (.list es) => match bndOf st 0 lo, bndOf st es.length hi with
        | some l, some h => 0 ≤ l ∧ l ≤ h ∧ h ≤ (es.length : Int) ∧ ((∀ e, es[l.toNat]? = some e → e.length = szOf P eT) ∧ szOf P eT ≠ 0) ∧ K (.list ((es.drop l.toNat).take (h.toNat - l.toNat)))
        | _, _ => False
      | _ => False
    | _ => False
  | _ => False

def ncP (st : St) (x : Operand) (K : Ct → Prop) : Prop :=
  match x with
  | .tmp t => match lk st.v t with
    | .sh (.ptr k o) => K (.sh (.ptr k o))
    | .sh (.cptr cs o) => K (.sh (.cptr cs o))
    | .sh (.fn f cs) => K (.sh (.fn f cs))
    | .eadr p i o => K (.eadr p i o)
    | _ => False
  | .func f => K (.sh (.fn f []))
  | _ => False

def lenP (P : Program) (T : TypeId) (x : MV) (K : MV → Prop) : Prop :=
  match kdOf P T, x with
  | .str, .str s => K (.int .i64 s.size)
  | .slice _, .list es => K (.int .i64 es.length)
  | .map _ _, .map m => K (.int .i64 m.length)
  | _, _ => False

def mm2 (mx : Bool) (a b : Int) : Int := if mx then (if a < b then b else a) else (if b < a then b else a)

def mmP (mx : Bool) : List MV → (MV → Prop) → Prop
  | [.int k a, .int _ b], K => K (.int k (mm2 mx a b))
  | [.int k a, .int _ b, .int _ c], K => K (.int k (mm2 mx (mm2 mx a b) c))
  | _, _ => False

def shv (st : St) : Operand → Option MV
  | .tmp t => match lk st.v t with
    | .sh m => some m
    | _ => none
  | .const v => mvConst v
  | .func f => some (.fn f [])
  | .global _ => none

def shvs (st : St) : List Operand → Option (List MV)
  | [] => some []
  | x :: r => match shv st x, shvs st r with
    | some m, some l => some (m :: l)
    | _, _ => none

def opvs (st : St) : List Operand → Option (List MV)
  | [] => some []
  | x :: r => match opv st x, opvs st r with
    | some m, some l => some (m :: l)
    | _, _ => none

/-- Is a slice nil, where that is known? -/
def nilness (st : St) : Operand → Option Bool
  | .tmp t => match lk st.v t with
    | .sh .nil => some true
    | .sh (.list (_ :: _)) => some false
    | .own _ (.list (_ :: _)) => some false
    | .al p => match st.at p with
      | .own _ (.list (_ :: _)) => some false
      | _ => none
    | _ => none
  | _ => none

def extP (st : St) (x : Operand) (i : Nat) (K : Ct → Prop) : Prop :=
  match x with
  | .tmp t => match lk st.v t with
    | .sh (.tup vs) => match vs[i]? with
      | some m => K (.sh m)
      | none => False
    | .tupc cs => match cs[i]? with
      | some (none, m) => K (.sh m)
      | _ => False
    | _ => False
  | _ => False

def isNilC : Operand → Bool
  | .const (.slice none 0 0) => true
  | _ => false

def binE (P : Program) (st : St) (op : BinOp) (T : TypeId) (x y : Operand) (K : Ct → Prop) : Prop :=
  if isNilC y = true then
    (match nilness st x with
    | some b => (match op with
      | .eql => (∃ e, kdOf P T = .slice e) ∧ K (.sh (.bool b))
      | .neq => (∃ e, kdOf P T = .slice e) ∧ K (.sh (.bool (!b)))
      | _ => False)
    | none => False)
  else match opv st x, opv st y with
    | some a, some b => (a matches .nilifc → y matches .const _) ∧ binP P op T a b (fun m => K (.sh m))
    | _, _ => False

/-- Operations that change nothing: what they say of their slot. -/
def pureP (P : Program) (st : St) (o : Op) (K : Ct → Prop) : Prop :=
  match o with
  | .move x => movP st x K
  | .binOp op T x y _ => binE P st op T x y K
  | .pick c x y => match opv st c with
    | some (.bool b) => if b = true then (match shv st x with
        | some m => K (.sh m)
        | none => False)
      else (match shv st y with
        | some m => K (.sh m)
        | none => False)
    | _ => False
  | .unOp op _ x => match opv st x with
    | some a => unP op a (fun m => K (.sh m))
    | none => False
  | .convert s d x => match opv st x with
    | some a => convP P s d a (fun m => K (.sh m))
    | none => False
  | .extract x i => extP st x i K
  | .load T x => loadP P st T x K
  | .fieldAddr T x f => faP P st T x f K
  | .field T x f => fieldP P st T x f (fun m => K (.sh m))
  | .indexAddr T x i => iaP P st T x i K
  | .index T x i => idxP P st T x i (fun m => K (.sh m))
  | .slice T x lo hi none => sliceP P st T x lo hi (fun m => K (.sh m))
  | .nilCheck x => ncP st x K
  | .makeFunc (.func f) fs cs => fs.size = 0 ∧ (match shvs st cs.toList with
    | some ms => K (.sh (.fn f ms))
    | none => False)
  | .call c => match c.callee with
    | .builtin .len => match c.args.toList with
      | [x] => match opv st x with
        | some m => lenP P (c.argTypes.getD 0 0) m (fun m => K (.sh m)) ∧ c.argTypes.size ≠ 0
        | none => False
      | _ => False
    | .builtin .min => match opvs st c.args.toList with
      | some ms => mmP false ms (fun m => K (.sh m))
      | none => False
    | .builtin .max => match opvs st c.args.toList with
      | some ms => mmP true ms (fun m => K (.sh m))
      | none => False
    | _ => False
  | _ => False

end Go.Pv
