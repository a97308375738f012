/- The library of this work, H texts, part C: the operations that change nothing. -/
import Derived.Test.YtlfbfhgoehndpaaGreatDoorHB
set_option linter.unusedVariables false
set_option linter.unusedSimpArgs false
namespace Go.Pv

section
variable {P : Program} {γ : List Value} {ω : Own} {w : World}
theorem run_loadFrom (b o : Nat) : ∀ (us : List Value) (i : Nat) (acc : Array Value), (∀ (j : Nat) (u : Value), us[j]? = some u → w.cell? ⟨b, o + (i + j), none⟩ = some u) →
    (loadCellsFrom ⟨b, o, none⟩ i us.length acc).run P w = .ok (acc ++ us.toArray) w
  | [], i, acc, h => by simp [loadCellsFrom]
  | u :: r, i, acc, h => by
    have h0 := h 0 u (by simp)
    have ih := run_loadFrom b o r (i + 1) (acc.push u) (fun j x hj => by
      have := h (j + 1) x (by simpa using hj)
      rw [show o + (i + 1 + j) = o + (i + (j + 1)) from by omega]
      exact this)
    simp only [List.length_cons, loadCellsFrom, Sem.run_bind, load, Sem.run, Addr.add_lit]
    simp only [Nat.add_zero] at h0
    rw [h0]
    simp only [Result.andThen_ok, ih]
    simp

theorem run_loadC (b o : Nat) (us : List Value) (h : ∀ (j : Nat) (u : Value), us[j]? = some u → w.cell? ⟨b, o + j, none⟩ = some u) :
    (loadCells ⟨b, o, none⟩ us.length).run P w = .ok us.toArray w := by
  have := run_loadFrom (P := P) (w := w) b o us 0 #[] (fun j u hj => by rw [Nat.zero_add]; exact h j u hj)
  simpa [loadCells] using this

theorem run_load1 (b o : Nat) (u : Value) (h : w.cell? ⟨b, o, none⟩ = some u) : (load ⟨b, o, none⟩).run P w = .ok u w := by
  simp [load, Sem.run, h]

theorem run_isAggT {T : TypeId} {ti : TI} (h : Ty P T ti) : (isAgg T).run P w = .ok (aggKd ti.kd) w := by
  obtain ⟨d, hd, hk⟩ := h.und
  unfold isAgg
  simp only [Sem.run_bind, run_underlying hd, Result.andThen_ok]
  rw [← hk]
  cases d <;> rfl

theorem run_sizeT {T : TypeId} {ti : TI} (h : Ty P T ti) : (sizeOf T).run P w = .ok ti.size w := by
  obtain ⟨i, z, h1, h2, _⟩ := h.info
  simp [sizeOf, typeInfo, h1, h2]

theorem run_zeroT {T : TypeId} {ti : TI} (h : Ty P T ti) : ∃ z, (zeroValue T).run P w = .ok z w ∧ zerosOf z.cells.toList = some ti.zero ∧ isAggV z = aggKd ti.kd := by
  obtain ⟨i, z, h1, h2, h3, h4, h5, h6, h7⟩ := h.info
  exact ⟨z, by simp [zeroValue, typeInfo, h1, h4], h5, h7⟩

/-- What is loaded at a known address. -/
theorem run_loadVarT {T : TypeId} {ti : TI} (h : Ty P T ti) (hna : aggKd ti.kd = false) (b o : Nat) (u : Value) (hu : w.cell? ⟨b, o, none⟩ = some u) : (loadVar T ⟨b, o, none⟩).run P w = .ok u w := by
  simp [loadVar, run_isAggT h, hna, load, Sem.run, hu]

theorem run_loadVarA {T : TypeId} {ti : TI} (h : Ty P T ti) (hna : aggKd ti.kd = true) (b o : Nat) (us : List Value) (hl : us.length = ti.size) (hu : ∀ (j : Nat) (u : Value), us[j]? = some u → w.cell? ⟨b, o + j, none⟩ = some u) :
    (loadVar T ⟨b, o, none⟩).run P w = .ok (.agg us.toArray) w := by
  simp [loadVar, run_isAggT h, hna, run_sizeT h, ← hl, run_loadC b o us hu]

end

def unP (op : UnOp) (x : MV) (K : MV → Prop) : Prop :=
  match op, x with
  | .not, .bool b => K (.bool (!b))
  | .neg, .int k n => K (.int k (k.wrap (0 - n)))
  | .xor, .int k n => K (.int k (bitI .xor k (if k.signed then -1 else k.max) n))
  | _, _ => False

def convP (P : Program) (s d : TypeId) (x : MV) (K : MV → Prop) : Prop :=
  match kdOf P d, x with
  | .int k, .int _ n => kdOf P s ≠ .other ∧ K (.int k (k.wrap n))
  | .str, .int _ n => kdOf P s ≠ .other ∧ K (.str (Utf8.encode n))
  | .str, .str a => kdOf P s ≠ .other ∧ K (.str a)
  | _, _ => False
/-- The cells of a value of type T that stand from off on. -/
def cutC (ti : TI) (cs : List MV) (off : Nat) (K : MV → Prop) : Prop :=
  if aggKd ti.kd = true then off + ti.size ≤ cs.length ∧ K (.agg ((cs.drop off).take ti.size))
  else match cs[off]? with
    | some c => K c
    | none => False
def fieldOf (P : Program) (T : TypeId) (f : Nat) : Option (Nat × TypeId) :=
  match kdOf P T with
  | .strct fs => fs[f]?
  | _ => none

def szOf (P : Program) (T : TypeId) : Nat := match tiOf P T with | some ti => ti.size | none => 0

def movP (st : St) (x : Operand) (K : MV → Prop) : Prop :=
  match shv st x with
  | some m => K m
  | none => False

def loadP (P : Program) (st : St) (T : TypeId) (x : Operand) (K : MV → Prop) : Prop :=
  match tiOf P T with
  | none => False
  | some ti =>
    match x with
    | .tmp t => match lk st.v t with
      | .cptr cs off => cutC ti cs off K
      | .ptr k off => match st.B[k]? with
        | some (some (.box cs)) => cutC ti cs off K
        | _ => False
      | .eref k sz i off => match st.B[k]? with
        | some (some (.row false sz' es [])) => sz' = sz ∧ (match es[i]? with
          | some e => cutC ti e off K
          | none => False)
        | some (some (.row true sz' es foc)) => sz' = sz ∧ aggKd ti.kd = false ∧ (∀ f ∈ foc, f.2.1 ≠ off) ∧ (match es[i]? with
          | some e => match e[off]? with
            | some c => np c = true ∧ K c
            | none => False
          | none => False)
        | _ => False
      | _ => False
    | _ => False

def faP (P : Program) (st : St) (T : TypeId) (x : Operand) (f : Nat) (K : MV → Prop) : Prop :=
  match fieldOf P T f with
  | some (o, fT) => szOf P fT ≠ 0 ∧ (match x with
    | .tmp t => match lk st.v t with
      | .cptr cs off => K (.cptr cs (off + o))
      | .ptr k off => K (.ptr k (off + o))
      | .eref k sz i off => K (.eref k sz i (off + o))
      | _ => False
    | _ => False)
  | none => False

def fieldP (P : Program) (st : St) (T : TypeId) (x : Operand) (f : Nat) (K : MV → Prop) : Prop :=
  match fieldOf P T f with
  | some (o, fT) => match tiOf P fT with
    | some ti => match opv st x with
      | some (.agg cs) => cutC ti cs o K
      | _ => False
    | none => False
  | none => False

/-- The element's address. -/
def iaP (P : Program) (st : St) (T : TypeId) (x i : Operand) (K : MV → Prop) : Prop :=
  match kdOf P T with
  | .slice eT => match opv st i with
    | some (.int _ n) => 0 ≤ n ∧ szOf P eT ≠ 0 ∧ (match x with
      | .tmp t => match lk st.v t with
        | .list es => ∃ e, es[n.toNat]? = some e ∧ e.length = szOf P eT ∧ K (.cptr e 0)
        | .ref k => match st.B[k]? with
          | some (some (.row dp sz es foc)) => n.toNat < es.length ∧ sz = szOf P eT ∧ K (.eref k sz n.toNat 0)
          | _ => False
        | _ => False
      | _ => False)
    | _ => False
  | _ => False

def bAt (s : ByteArray) (i : Nat) : Int := ((s.data.getD i 0).toNat : Int)
def idxP (P : Program) (st : St) (T : TypeId) (x i : Operand) (K : MV → Prop) : Prop :=
  match kdOf P T with
  | .str => match opv st x, opv st i with
    | some (.str s), some (.int _ n) => 0 ≤ n ∧ n.toNat < s.size ∧ K (.int .u8 (bAt s n.toNat))
    | _, _ => False
  | _ => False
/-- A bound of a slice expression. -/
def bndOf (st : St) (d : Nat) : Option Operand → Option Int
  | none => some d
  | some x => match opv st x with
    | some (.int _ n) => some n
    | _ => none
def sliceP (P : Program) (st : St) (T : TypeId) (x : Operand) (lo hi : Option Operand) (K : MV → Prop) : Prop :=
  match kdOf P T with
  | .str => match opv st x with
    | some (.str s) => match bndOf st 0 lo, bndOf st s.size hi with
      | some l, some h => 0 ≤ l ∧ l ≤ h ∧ h ≤ (s.size : Int) ∧ K (.str (s.extract l.toNat h.toNat))
      | _, _ => False
    | _ => False
  | .slice eT => match x with
    | .tmp t => match lk st.v t with
      | .list es => match bndOf st 0 lo, bndOf st es.length hi with
        | some l, some h => 0 ≤ l ∧ l ≤ h ∧ h ≤ (es.length : Int) ∧ ((∀ e, es[l.toNat]? = some e → e.length = szOf P eT) ∧ szOf P eT ≠ 0) ∧ K (.list ((es.drop l.toNat).take (h.toNat - l.toNat)))
        | _, _ => False
      | _ => False
    | _ => False
  | _ => False

def ncP (st : St) (x : Operand) (K : MV → Prop) : Prop :=
  match x with
  | .tmp t => match lk st.v t with
    | .ptr k o => K (.ptr k o)
    | .cptr cs o => K (.cptr cs o)
    | .fn f cs => K (.fn f cs)
    | .eref k sz i o => K (.eref k sz i o)
    | _ => False
  | .func f => K (.fn f [])
  | _ => False

/-- How long an object is. -/
def lenC (st : St) (kd : TK) (m : MV) : Option MV := match kd, m with
  | .slice _, .ref k => match st.B[k]? with
    | some (some (.row _ _ es _)) => some (.int .i64 es.length)
    | _ => none
  | .map _ _, .ref k => match st.B[k]? with
    | some (some (.map _ es _)) => some (.int .i64 es.length)
    | _ => none
  | .slice _, .list es => some (.int .i64 es.length)
  | .slice _, .nil => some (.int .i64 (0 : Nat))
  | .map _ _, .map es => some (.int .i64 es.length)
  | .str, .str s => some (.int .i64 s.size)
  | _, _ => none

def mm2 (mx : Bool) (a b : Int) : Int := if mx then (if a < b then b else a) else (if b < a then b else a)

def mmP (mx : Bool) : List MV → (MV → Prop) → Prop
  | [.int k a, .int _ b], K => K (.int k (mm2 mx a b))
  | [.int k a, .int _ b, .int _ c], K => K (.int k (mm2 mx (mm2 mx a b) c))
  | _, _ => False

def shvs (st : St) : List Operand → Option (List MV)
  | [] => some []
  | x :: r => match shv st x, shvs st r with
    | some m, some l => some (m :: l)
    | _, _ => none

def opvs (st : St) : List Operand → Option (List MV)
  | [] => some []
  | x :: r => match opv st x, opvs st r with
    | some m, some l => some (m :: l)
    | _, _ => none

/-- Is a slice nil, where that is known? -/
def nilness (st : St) : Operand → Option Bool
  | .tmp t => match lk st.v t with
    | .nil => some true
    | _ => none
  | _ => none

/-- A slice of which it is not known. -/
def nilL (st : St) : Operand → Option (List (List MV))
  | .tmp t => match lk st.v t with
    | .list es => some es
    | .ref k => match st.B[k]? with
      | some (some (.row _ _ es _)) => some es
      | _ => none
    | _ => none
  | _ => none

def extP (st : St) (x : Operand) (i : Nat) (K : MV → Prop) : Prop :=
  match x with
  | .tmp t => match lk st.v t with
    | .tup vs => match vs[i]? with
      | some m => K m
      | none => False
    | _ => False
  | _ => False

def isNilC : Operand → Bool
  | .const (.slice none 0 0) => true
  | _ => false

def binE (P : Program) (st : St) (op : BinOp) (T : TypeId) (x y : Operand) (K : MV → Prop) : Prop :=
  if isNilC y = true then
    (match nilness st x with
    | some b => (match op with
      | .eql => (∃ e, kdOf P T = .slice e) ∧ K (.bool b)
      | .neq => (∃ e, kdOf P T = .slice e) ∧ K (.bool (!b))
      | _ => False)
    | none => (match nilL st x with
      | some es => (match op with
        | .eql => (∃ e, kdOf P T = .slice e) ∧ K (.bool false) ∧ (es = [] → K (.bool true))
        | .neq => (∃ e, kdOf P T = .slice e) ∧ K (.bool true) ∧ (es = [] → K (.bool false))
        | _ => False)
      | none => False))
  else match opv st x, opv st y with
    | some a, some b => (a matches .nilifc → y matches .const _) ∧ binP P op T a b K
    | _, _ => False

/-! ### Maps: keys, and what is found -/
def mfind : List (MKey × MV) → MKey → Nat → Option (Nat × MV)
  | [], _, _ => none
  | (k', v) :: r, k, i => if k = k' then some (i, v) else mfind r k (i + 1)
def mget (m : List (MKey × MV)) (k : MKey) : Option MV := (mfind m k 0).map (·.2)
def kOkM (m : List (MKey × MV)) (k : MKey) : Bool := match m with
  | [] => true
  | (k0, _) :: _ => sameK k0 k
/-- A key, of a type. -/
def keyT : TK → MV → Option MKey
  | .str, .str s => some (.str s)
  | .int k, .int k' n => if k = k' then some (.int k n) else none
  | .bool, .bool b => some (.bool b)
  | _, _ => none
def zeroM (ti : TI) : MV := match aggKd ti.kd with
  | true => .agg ti.zero
  | false => match ti.zero with
    | [z] => z
    | _ => .gone

def lookP (P : Program) (st : St) (T : TypeId) (x i : Operand) (ok : Bool) (K : MV → Prop) : Prop :=
  match kdOf P T with
  | .map kT eT => match opv st x, opv st i, tiOf P eT with
    | some (.map m), some kv, some ti => match keyT (kdOf P kT) kv with
      | some k => kOkM m k = true ∧ (match mget m k with
        | some v => K (if ok = true then .tup [v, .bool true] else v)
        | none => K (if ok = true then .tup [zeroM ti, .bool false] else zeroM ti))
      | none => False
    | _, _, _ => False
  | _ => False

/-- Operations that change nothing: what they say of their slot. -/
def pureP (P : Program) (st : St) (o : Op) (K : MV → Prop) : Prop :=
  match o with
  | .move x => movP st x K
  | .binOp op T x y _ => binE P st op T x y K
  | .pick c x y => match opv st c with
    | some (.bool b) => if b = true then (match shv st x with
        | some m => K m
        | none => False)
      else (match shv st y with
        | some m => K m
        | none => False)
    | _ => False
  | .unOp op _ x => match opv st x with
    | some a => unP op a K
    | none => False
  | .convert s d x => match opv st x with
    | some a => convP P s d a K
    | none => False
  | .extract x i => extP st x i K
  | .load T x => loadP P st T x K
  | .fieldAddr T x f => faP P st T x f K
  | .field T x f => fieldP P st T x f K
  | .indexAddr T x i => iaP P st T x i K
  | .index T x i => idxP P st T x i K
  | .slice T x lo hi none => sliceP P st T x lo hi K
  | .lookup T x i ok => lookP P st T x i ok K
  | .nilCheck x => ncP st x K
  | .makeFunc (.func f) fs cs => fs.size = 0 ∧ (match shvs st cs.toList with
    | some ms => K (.fn f ms)
    | none => False)
  | .call c => match c.callee with
    | .builtin .len => match c.args.toList with
      | [x] => c.argTypes.size ≠ 0 ∧ (match shv st x with
        | some m => (match lenC st (kdOf P (c.argTypes.getD 0 0)) m with
          | some n => K n
          | none => False)
        | none => False)
      | _ => False
    | .builtin .min => match opvs st c.args.toList with
      | some ms => mmP false ms K
      | none => False
    | .builtin .max => match opvs st c.args.toList with
      | some ms => mmP true ms K
      | none => False
    | _ => False
  | _ => False

theorem range_map {α : Type} {f : Nat → α} {n j : Nat} {u : α} (h : ((List.range n).map f)[j]? = some u) : j < n ∧ f j = u := by
  rw [List.getElem?_map] at h
  rcases Nat.lt_or_ge j n with hj | hj
  · rw [List.getElem?_range hj] at h
    simp at h; exact ⟨hj, h⟩
  · rw [List.getElem?_eq_none (by simpa using hj)] at h
    simp at h
/-- What an operation that changes nothing comes to. -/
def Gives (P : Program) (γ : List Value) (ω : Own) (w : World) (s : Sem Value) (K : MV → Prop) : Prop :=
  ∃ c v, s.run P w = .ok v w ∧ Rep γ ω w c v ∧ K c

section
variable {P : Program} {γ : List Value} {ω : Own} {w : World} {nt : Nat} {st : St} {a : Act} {K : MV → Prop}

theorem Gives.sh {s : Sem Value} {m : MV} {v : Value} (h : s.run P w = .ok v w) (hr : Rep γ ω w m v) (hK : K m) : Gives P γ ω w s K := ⟨m, v, h, hr, hK⟩

theorem mov_ok (h : Rel γ ω w nt st a) {x : Operand} (hx : movP st x K) : ∃ c, Rep γ ω w c (a.eval x) ∧ K c := by
  unfold movP at hx
  split at hx
  · rename_i m hm; exact ⟨m, h.shv hm, hx⟩
  · exact hx.elim

theorem shvs_rep (h : Rel γ ω w nt st a) : ∀ {xs : List Operand} {ms : List MV}, shvs st xs = some ms → (xs.map a.eval).length = ms.length ∧ ∀ (i : Nat) (c : MV) (v : Value), ms[i]? = some c → (xs.map a.eval)[i]? = some v → Rep γ ω w c v
  | [], ms, hx => by simp [shvs] at hx; subst hx; simp
  | x :: r, ms, hx => by
    unfold shvs at hx
    split at hx
    · rename_i m l hm hl
      injection hx with hx; subst hx
      obtain ⟨h1, h2⟩ := shvs_rep h hl
      refine ⟨by simpa using h1, fun i c v hc hv => ?_⟩
      cases i with
      | zero => simp at hc hv; subst hc; subst hv; exact h.shv hm
      | succ i => exact h2 i c v (by simpa using hc) (by simpa using hv)
    · exact absurd hx (by simp)

theorem opvs_val (h : Rel γ ω w nt st a) : ∀ {xs : List Operand} {ms : List MV}, opvs st xs = some ms → (xs.map a.eval).length = ms.length ∧ ∀ (i : Nat) (c : MV) (v : Value), ms[i]? = some c → (xs.map a.eval)[i]? = some v → Val γ ω w c v
  | [], ms, hx => by simp [opvs] at hx; subst hx; simp
  | x :: r, ms, hx => by
    unfold opvs at hx
    split at hx
    · rename_i m l hm hl
      injection hx with hx; subst hx
      obtain ⟨h1, h2⟩ := opvs_val h hl
      refine ⟨by simpa using h1, fun i c v hc hv => ?_⟩
      cases i with
      | zero => simp at hc hv; subst hc; subst hv; exact h.val hm
      | succ i => exact h2 i c v (by simpa using hc) (by simpa using hv)
    · exact absurd hx (by simp)

theorem un_ok {op : UnOp} {m : MV} {v : Value} (hv : Val γ ω w m v) {K : MV → Prop} (h : unP op m K) : ∃ m' v', (Op.unary op v).run P w = .ok v' w ∧ Rep γ ω w m' v' ∧ K m' := by
  unfold unP at h
  split at h
  · have e := hv.bool; subst e; exact ⟨_, _, by simp [Op.unary], .bool _, h⟩
  · have e := hv.int; subst e; exact ⟨_, _, by simp [Op.unary, Op.intArith], .int _ _, h⟩
  · have e := hv.int; subst e
    refine ⟨_, _, ?_, .int _ _, h⟩
    simp only [Op.unary, Op.intBits, bitI]; rfl
  · exact h.elim

theorem conv_ok {s d : TypeId} {m : MV} {v : Value} (hv : Val γ ω w m v) {K : MV → Prop} (h : convP P s d m K) : ∃ m' v', (convert s d v).run P w = .ok v' w ∧ Rep γ ω w m' v' ∧ K m' := by
  unfold convP at h
  split at h
  · rename_i k k' n hk
    obtain ⟨hs, h⟩ := h
    obtain ⟨d1, hd1, _⟩ := und_of_kd rfl hs
    obtain ⟨d2, hd2, hk2⟩ := und_of_kd hk (by simp)
    have := tk_int hk2; subst this
    have e := hv.int; subst e
    exact ⟨_, _, by simp [convert, run_underlying hd1, run_underlying hd2, Conv.intToInt], .int _ _, h⟩
  · rename_i k' n hk
    obtain ⟨hs, h⟩ := h
    obtain ⟨d1, hd1, _⟩ := und_of_kd rfl hs
    obtain ⟨d2, hd2, hk2⟩ := und_of_kd hk (by simp)
    have := tk_str hk2; subst this
    have e := hv.int; subst e
    exact ⟨_, _, by simp [convert, run_underlying hd1, run_underlying hd2, Conv.intToString], .str _, h⟩
  · rename_i s' hk
    obtain ⟨hs, h⟩ := h
    obtain ⟨d1, hd1, _⟩ := und_of_kd rfl hs
    obtain ⟨d2, hd2, hk2⟩ := und_of_kd hk (by simp)
    have := tk_str hk2; subst this
    have e := hv.str; subst e
    exact ⟨_, _, by simp [convert, run_underlying hd1, run_underlying hd2], .str _, h⟩
  · exact h.elim
theorem ext_ok (h : Rel γ ω w nt st a) {x : Operand} {i : Nat} (hx : extP st x i K) : Gives P γ ω w (Instr.extract (a.eval x) i) K := by
  cases x with
  | tmp t =>
    simp only [extP] at hx
    split at hx
    · rename_i vs hc
      split at hx
      · rename_i m hm
        have hr := h.slot t hc
        generalize a.eval (.tmp t) = v at hr ⊢
        cases hr with
        | tup _ us hl hh =>
          have hi : i < us.length := by rw [hl]; exact (List.getElem?_eq_some_iff.1 hm).1
          refine .sh (v := us[i]) ?_ (hh i m us[i] hm (List.getElem?_eq_getElem hi)) hx
          simp [Instr.extract, List.getElem?_eq_getElem hi]
      · exact hx.elim
    · exact hx.elim
  | const v => simp [extP] at hx
  | func f => simp [extP] at hx
  | global g => simp [extP] at hx

/-- The cells of a value that stand in memory, one behind the other. -/
theorem cut_load {T : TypeId} {ti : TI} (hT : Ty P T ti) {cs : List MV} {off : Nat} {K : MV → Prop} (h : cutC ti cs off K) (b o : Nat) (us : Nat → Value)
    (hc : ∀ (i : Nat) (c : MV), cs[i]? = some c → w.cell? ⟨b, o + i, none⟩ = some (us i) ∧ (us i).oneCell' = true) (hr : ∀ (i : Nat) (c : MV), cs[i]? = some c → Rep γ ω w c (us i)) :
    ∃ m v, (loadVar T ⟨b, o + off, none⟩).run P w = .ok v w ∧ Rep γ ω w m v ∧ K m := by
  unfold cutC at h
  split at h
  · rename_i hag
    obtain ⟨hle, h⟩ := h
    refine ⟨_, _, run_loadVarA hT hag b (o + off) ((List.range ti.size).map fun j => us (off + j)) (by simp) ?_, ?_, h⟩
    · intro j u hj
      obtain ⟨hlt, hj⟩ := range_map hj
      subst hj
      have hlt' : off + j < cs.length := by omega
      rw [show o + off + j = o + (off + j) from by omega]
      exact (hc (off + j) _ (List.getElem?_eq_getElem hlt')).1
    · refine .agg _ _ (by simp; omega) ?_ ?_
      · intro i c v hc1 hv1
        rw [List.getElem?_take] at hc1
        split at hc1
        · rename_i hlt
          rw [List.getElem?_drop] at hc1
          simp [List.getElem?_map, List.getElem?_range, hlt] at hv1
          subst hv1
          exact hr (off + i) c hc1
        · simp at hc1
      · intro v hv
        simp only [List.mem_map, List.mem_range] at hv
        obtain ⟨j, hj, rfl⟩ := hv
        exact (hc (off + j) _ (List.getElem?_eq_getElem (by omega))).2
  · rename_i hag
    split at h
    · rename_i c hcc
      have hag' : aggKd ti.kd = false := by simpa using hag
      exact ⟨c, us off, run_loadVarT hT hag' b (o + off) (us off) (hc off c hcc).1, hr off c hcc, h⟩
    · exact h.elim
/-- The same, in all worlds that have these cells. -/
theorem cut_loadK {T : TypeId} {ti : TI} (hT : Ty P T ti) {cs : List MV} {off : Nat} {K : MV → Prop} (h : cutC ti cs off K) (b o : Nat) (us : Nat → Value)
    (hc : ∀ (i : Nat) (c : MV), cs[i]? = some c → (us i).oneCell' = true) (hr : ∀ (i : Nat) (c : MV), cs[i]? = some c → Rep γ ω w c (us i)) :
    ∃ m v, (∀ w' : World, (∀ (i : Nat) (c : MV), cs[i]? = some c → w'.cell? ⟨b, o + i, none⟩ = some (us i)) → (loadVar T ⟨b, o + off, none⟩).run P w' = .ok v w') ∧ Rep γ ω w m v ∧ K m := by
  unfold cutC at h
  split at h
  · rename_i hag
    obtain ⟨hle, h⟩ := h
    refine ⟨_, _, fun w' hcw => run_loadVarA hT hag b (o + off) ((List.range ti.size).map fun j => us (off + j)) (by simp) ?_, ?_, h⟩
    · intro j u hj
      obtain ⟨hlt, hj⟩ := range_map hj
      subst hj
      have hlt' : off + j < cs.length := by omega
      rw [show o + off + j = o + (off + j) from by omega]
      exact hcw (off + j) _ (List.getElem?_eq_getElem hlt')
    · refine .agg _ _ (by simp; omega) ?_ ?_
      · intro i c v hc1 hv1
        rw [List.getElem?_take] at hc1
        split at hc1
        · rename_i hlt
          rw [List.getElem?_drop] at hc1
          simp [List.getElem?_map, List.getElem?_range, hlt] at hv1
          subst hv1
          exact hr (off + i) c hc1
        · simp at hc1
      · intro v hv
        simp only [List.mem_map, List.mem_range] at hv
        obtain ⟨j, hj, rfl⟩ := hv
        exact hc (off + j) _ (List.getElem?_eq_getElem (by omega))
  · rename_i hag
    split at h
    · rename_i c hcc
      have hag' : aggKd ti.kd = false := by simpa using hag
      exact ⟨c, us off, fun w' hcw => run_loadVarT hT hag' b (o + off) (us off) (hcw off c hcc), hr off c hcc, h⟩
    · exact h.elim
/-- What stands in an object's cell and leads nowhere is shared. -/
theorem CellT.toRep {N : List (Nat × Nat) → Owner} {m : MV} {v : Value} (h : CellT γ ω w N m v) (hn : np m = true) : Rep γ ω w m v := by
  cases h with
  | rep _ _ _ _ h => exact h
  | row => simp [np] at hn
  | map => simp [np] at hn

/-- A row's cells in memory. -/
theorem RowR.cells {N : List (Nat × Nat) → Owner} {foc : List (Nat × Nat × Nat)} {dp : Bool} {sz : Nat} {es : List (List MV)} {v : Value} {e : TypeId} {xs : List Value} (h : RowR γ ω w N foc dp sz es v e xs) {blk : Nat} (hb : v.ownBlock = some blk) :
    ∃ cap, v = .slice (some ⟨blk, 0, none⟩) es.length cap ∧ es.length ≤ cap ∧ ω blk = some (N []) ∧ blk < w.heap.size ∧ ∀ (j i : Nat) (u : Value), xs[j * sz + i]? = some u → w.cell? ⟨blk, j * sz + i, none⟩ = some u ∧ u.oneCell' = true := by
  obtain ⟨h1, h2⟩ := h.blk blk hb
  rcases h.own.2 with ⟨rfl, h0⟩ | ⟨g, cap, cur, rfl, _, hg, hle, hmx, hcs, htk⟩
  · simp [Value.ownBlock] at hb
  · simp [Value.ownBlock] at hb
    subst hb
    refine ⟨cap, rfl, hle, h1, h2, fun j i u hu => ⟨?_, h.one u (List.mem_of_getElem? hu)⟩⟩
    simp only [World.cell?, hg]
    rw [← htk] at hu
    rw [List.getElem?_take] at hu
    split at hu
    · simpa using hu
    · simp at hu

theorem RowR.hasBlk {N : List (Nat × Nat) → Owner} {foc : List (Nat × Nat × Nat)} {dp : Bool} {sz : Nat} {es : List (List MV)} {v : Value} {e : TypeId} {xs : List Value} (h : RowR γ ω w N foc dp sz es v e xs) (hl : 0 < es.length) : ∃ blk cap, v.ownBlock = some blk ∧ v = .slice (some ⟨blk, 0, none⟩) es.length cap := by
  rcases h.own.2 with ⟨_, h0⟩ | ⟨g, cap, cur, rfl, _⟩
  · omega
  · exact ⟨g, cap, rfl, rfl⟩

/-- A flat row: its cells are shared values. -/
theorem RowR.flat {N : List (Nat × Nat) → Owner} {sz : Nat} {es : List (List MV)} {v : Value} {e : TypeId} {xs : List Value} (h : RowR γ ω w N [] false sz es v e xs) {j : Nat} {y : List MV} {i : Nat} {c : MV} (hj : es[j]? = some y) (hi : y[i]? = some c) : ∃ u, xs[j * sz + i]? = some u ∧ np c = true ∧ Rep γ ω w c u := by
  obtain ⟨u, hu, hr⟩ := h.cell j y i c hj hi
  simp only [lkF] at hr
  exact ⟨u, hu, hr.1 (by trivial), hr.2.toRep (hr.1 (by trivial))⟩

theorem load_ok (h : Rel γ ω w nt st a) {T : TypeId} {x : Operand} (hx : loadP P st T x K) : Gives P γ ω w (Instr.loadAt T (a.eval x)) K := by
  unfold loadP at hx
  split at hx
  · exact hx.elim
  rename_i ti hti
  have hT := ty_of hti
  cases x with
  | tmp t =>
    simp only at hx
    split at hx
    · rename_i cs off hc
      have hr := h.slot t hc
      generalize a.eval (.tmp t) = v at hr ⊢
      cases hr with
      | cptr _ _ blk o us hω hlt hn hcell hrep =>
        obtain ⟨m, v, h1, h2, h3⟩ := cut_load (γ := γ) (ω := ω) hT hx blk o us hcell hrep
        exact ⟨m, v, by simp [Instr.loadAt, Instr.sureAddr, h1], h2, h3⟩
    · rename_i k off hc
      have hr := h.slot t hc
      generalize a.eval (.tmp t) = v at hr ⊢
      cases hr with
      | ptr _ _ blk hb =>
        split at hx
        · rename_i cs hk
          obtain ⟨hd, g1, blk', cur, e, g2, g3, g4, g5, g6, g7⟩ := h.objs k _ hk
          rw [hb] at g1; injection g1 with g1; subst g1
          injection g2 with g2; injection g2 with g2; injection g2 with g2; subst g2
          have hcur : ∀ (i : Nat) (c : MV), cs[i]? = some c → w.cell? ⟨blk, 0 + i, none⟩ = some ((cur[i]?).getD undef) ∧ ((cur[i]?).getD undef).oneCell' = true ∧ Rep γ ω w c ((cur[i]?).getD undef) := by
            intro i c hi
            obtain ⟨u, q1, q2, q3⟩ := g7 i c hi
            rw [q1]
            exact ⟨by simp [World.cell?, g5, q1], q2, q3⟩
          obtain ⟨m, v, h1, h2, h3⟩ := cut_load (γ := γ) (ω := ω) hT hx blk 0 (fun i => (cur[i]?).getD undef) (fun i c hi => ⟨(hcur i c hi).1, (hcur i c hi).2.1⟩) (fun i c hi => (hcur i c hi).2.2)
          rw [Nat.zero_add] at h1
          exact ⟨m, v, by simp [Instr.loadAt, Instr.sureAddr, h1], h2, h3⟩
        · exact hx.elim
    · rename_i k sz i off hc
      have hr := h.slot t hc
      generalize a.eval (.tmp t) = v at hr ⊢
      cases hr with
      | eref _ _ _ _ blk len cap hb =>
        split at hx
        · rename_i sz' es hk
          obtain ⟨rfl, hx⟩ := hx
          split at hx
          · rename_i y hy
            obtain ⟨hd, g1, e, xs, g2⟩ := h.objs k _ hk
            rw [hb] at g1; injection g1 with g1; subst g1
            obtain ⟨cap', q1, _, _, _, q5⟩ := g2.cells (blk := blk) rfl
            have hcur : ∀ (q : Nat) (c : MV), y[q]? = some c → w.cell? ⟨blk, i * sz' + q, none⟩ = some ((xs[i * sz' + q]?).getD undef) ∧ ((xs[i * sz' + q]?).getD undef).oneCell' = true ∧ Rep γ ω w c ((xs[i * sz' + q]?).getD undef) := by
              intro q c hq
              obtain ⟨u, r1, r2, r3⟩ := g2.flat hy hq
              rw [r1]
              exact ⟨(q5 _ _ u r1).1, (q5 _ _ u r1).2, r3⟩
            obtain ⟨m, v, h1, h2, h3⟩ := cut_load (γ := γ) (ω := ω) hT hx blk (i * sz') (fun q => (xs[i * sz' + q]?).getD undef) (fun i c hi => ⟨(hcur i c hi).1, (hcur i c hi).2.1⟩) (fun i c hi => (hcur i c hi).2.2)
            exact ⟨m, v, by simp [Instr.loadAt, Instr.sureAddr, h1], h2, h3⟩
          · exact hx.elim
        · rename_i sz' es foc hk
          obtain ⟨rfl, hag, hfo, hx⟩ := hx
          split at hx
          · rename_i y hy
            split at hx
            · rename_i c hcc
              obtain ⟨hd, g1, e, xs, g2⟩ := h.objs k _ hk
              rw [hb] at g1; injection g1 with g1; subst g1
              obtain ⟨cap', q1, _, _, _, q5⟩ := g2.cells (blk := blk) rfl
              obtain ⟨u, r1, r2⟩ := g2.cell i y off c hy hcc
              have hno : lkF foc i off = none := by
                clear hk g2 r2
                induction foc with
                | nil => rfl
                | cons f r ih =>
                  obtain ⟨j, q, kk⟩ := f
                  have := hfo (j, q, kk) (by simp)
                  simp only [lkF]
                  rw [if_neg (fun e => this e.2)]
                  exact ih (fun f hf => hfo f (by simp [hf]))
              rw [hno] at r2
              refine ⟨c, u, ?_, r2.2.toRep hx.1, hx.2⟩
              simp [Instr.loadAt, Instr.sureAddr, run_loadVarT hT hag blk (i * sz' + off) u (q5 _ _ u r1).1]
            · exact hx.elim
          · exact hx.elim
        · exact hx.elim
    · exact hx.elim
  | const v => simp at hx
  | func f => simp at hx
  | global g => simp at hx

theorem szOf_ne {T : TypeId} (h : szOf P T ≠ 0) : ∃ ti, tiOf P T = some ti ∧ ti.size = szOf P T := by
  unfold szOf at h ⊢
  cases ht : tiOf P T with
  | none => rw [ht] at h; simp at h
  | some ti => exact ⟨ti, rfl, rfl⟩

theorem field_desc {T : TypeId} {f o : Nat} {fT : TypeId} (h : fieldOf P T f = some (o, fT)) : ∃ avs : Array Field, P.underlying T = some (.struct avs) ∧ ∃ fd, avs[f]? = some fd ∧ fd.offset = o ∧ fd.type = fT := by
  unfold fieldOf at h
  split at h
  · rename_i fs hfs
    obtain ⟨d, hd, hk⟩ := und_of_kd hfs (by simp)
    obtain ⟨avs, rfl, rfl⟩ := tk_strct hk
    rw [List.getElem?_map] at h
    cases ha : avs.toList[f]? with
    | none => rw [ha] at h; simp at h
    | some fd =>
      rw [ha] at h; simp at h
      exact ⟨avs, hd, fd, by simpa using ha, h.1, h.2⟩
  · exact absurd h (by simp)

theorem run_fieldAt {T : TypeId} {f o : Nat} {fT : TypeId} (h : fieldOf P T f = some (o, fT)) (hs : szOf P fT ≠ 0) (blk off : Nat) :
    (Instr.fieldAt T (.pointer (some ⟨blk, off, none⟩)) f).run P w = .ok (.pointer (some ⟨blk, off + o, none⟩)) w := by
  obtain ⟨avs, hu, fd, hf, ho, hT⟩ := field_desc h
  obtain ⟨ti, hti, hsz⟩ := szOf_ne hs
  subst hT
  have hne : ti.size ≠ 0 := by rw [hsz]; exact hs
  simp [Instr.fieldAt, run_underlying hu, hf, Instr.sureAddr, fieldPlace, run_sizeT (ty_of hti), hne, Addr.add_lit, ho]
theorem fa_ok (h : Rel γ ω w nt st a) {T : TypeId} {x : Operand} {f : Nat} (hx : faP P st T x f K) : Gives P γ ω w (Instr.fieldAt T (a.eval x) f) K := by
  unfold faP at hx
  split at hx
  · rename_i o fT hf
    obtain ⟨hs, hx⟩ := hx
    cases x with
    | tmp t =>
      simp only at hx
      split at hx
      · rename_i cs off hc
        have hr := h.slot t hc
        generalize a.eval (.tmp t) = v at hr ⊢
        cases hr with
        | cptr _ _ blk o' us hω hlt hn hcell hrep =>
          refine .sh (m := .cptr cs (off + o)) (run_fieldAt hf hs blk (o' + off)) ?_ hx
          rw [Nat.add_assoc]
          exact .cptr cs (off + o) blk o' us hω hlt hn hcell hrep
      · rename_i k off hc
        have hr := h.slot t hc
        generalize a.eval (.tmp t) = v at hr ⊢
        cases hr with
        | ptr _ _ blk hb => exact .sh (run_fieldAt hf hs blk off) (.ptr k (off + o) blk hb) hx
      · rename_i k sz i off hc
        have hr := h.slot t hc
        generalize a.eval (.tmp t) = v at hr ⊢
        cases hr with
        | eref _ _ _ _ blk len cap hb =>
          refine .sh (m := .eref k sz i (off + o)) (run_fieldAt hf hs blk (i * sz + off)) ?_ hx
          rw [Nat.add_assoc]
          exact .eref k sz i (off + o) blk len cap hb
      · exact hx.elim
    | const v => simp at hx
    | func f => simp at hx
    | global g => simp at hx
  · exact hx.elim

/-- The cells of a value that is held by value. -/
theorem cut_part {T : TypeId} {ti : TI} (hT : Ty P T ti) {cs : List MV} {off : Nat} {K : MV → Prop} (h : cutC ti cs off K) (us : List Value) (hl : us.length = cs.length)
    (h1 : ∀ u ∈ us, u.oneCell' = true) (hr : ∀ (i : Nat) (c : MV) (v : Value), cs[i]? = some c → us[i]? = some v → Rep γ ω w c v) :
    ∃ m v, (part T us.toArray off).run P w = .ok v w ∧ Rep γ ω w m v ∧ K m := by
  unfold cutC at h
  split at h
  · rename_i hag
    obtain ⟨hle, h⟩ := h
    refine ⟨_, .agg (us.toArray.extract off (off + ti.size)), by simp [part, run_isAggT hT, hag, run_sizeT hT], ?_, h⟩
    have e : us.toArray.extract off (off + ti.size) = ((us.drop off).take ti.size).toArray := by
      simp [List.extract_eq_take_drop]
    rw [e]
    refine .agg _ _ (by simp; omega) ?_ ?_
    · intro i c v hc1 hv1
      rw [List.getElem?_take] at hc1 hv1
      split at hc1
      · rename_i hlt
        rw [if_pos hlt, List.getElem?_drop] at hv1
        rw [List.getElem?_drop] at hc1
        exact hr _ c v hc1 hv1
      · simp at hc1
    · intro v hv
      exact h1 v (List.mem_of_mem_drop (List.mem_of_mem_take hv))
  · rename_i hag
    have hag' : aggKd ti.kd = false := by simpa using hag
    split at h
    · rename_i c hcc
      have hlt : off < us.length := by rw [hl]; exact (List.getElem?_eq_some_iff.1 hcc).1
      refine ⟨c, us[off], ?_, hr off c _ hcc (List.getElem?_eq_getElem hlt), h⟩
      simp [part, run_isAggT hT, hag', List.getElem?_eq_getElem hlt]
    · exact h.elim
theorem field_ok (h : Rel γ ω w nt st a) {T : TypeId} {x : Operand} {f : Nat} (hx : fieldP P st T x f K) : Gives P γ ω w (Instr.field T (a.eval x) f) K := by
  unfold fieldP at hx
  split at hx
  · rename_i o fT hf
    split at hx
    · rename_i ti hti
      split at hx
      · rename_i cs hcs
        have hr := (h.val hcs).agg
        generalize a.eval x = v at hr ⊢
        cases hr with
        | agg _ us hl hrep h1 =>
          obtain ⟨m, v, r1, r2, r3⟩ := cut_part (γ := γ) (ω := ω) (ty_of hti) hx us hl h1 hrep
          obtain ⟨avs, hu, fd, hfd, ho, hT⟩ := field_desc hf
          subst hT; subst ho
          refine .sh (v := v) ?_ r2 r3
          have hag : ∀ xs : Array Value, (asAgg (.agg xs)).run P w = .ok xs w := fun xs => by simp [asAgg]
          simp [Instr.field, run_underlying hu, hfd, hag, r1]
      · exact hx.elim
    · exact hx.elim
  · exact hx.elim
theorem run_asIntOf {k : IntKind} {n : Int} : (asIntOf (.int k n)).run P w = .ok (k, n) w := by simp [asIntOf]
theorem ia_ok (h : Rel γ ω w nt st a) {T : TypeId} {x i : Operand} (hx : iaP P st T x i K) : Gives P γ ω w (Instr.indexAt T (a.eval x) (a.eval i)) K := by
  unfold iaP at hx
  split at hx
  · rename_i eT hk
    obtain ⟨d, hd, hkd⟩ := und_of_kd hk (by simp)
    have := tk_slice hkd; subst this
    split at hx
    · rename_i k n hn
      obtain ⟨h0, hz, hx⟩ := hx
      have ei := (h.val hn).int
      have key : ∀ (blk o len cap : Nat), n < (len : Int) → szOf P eT ≠ 0 → (Instr.indexAt T (.slice (some ⟨blk, o, none⟩) len cap) (a.eval i)).run P w = .ok (.pointer (some ⟨blk, o + n.toNat * szOf P eT, none⟩)) w := by
        intro blk o len cap hlt hs
        obtain ⟨ti, hti, hsz⟩ := szOf_ne hs
        rw [ei]
        have hc : (0 ≤ n ∧ n < (len : Int)) := ⟨h0, hlt⟩
        simp [Instr.indexAt, run_asIntOf, run_underlying hd, hc, run_sizeT (ty_of hti), Addr.add_lit, hsz]
      cases x with
      | tmp t =>
        simp only at hx
        split at hx
        · rename_i es hc
          obtain ⟨e, he, hl, hx⟩ := hx
          have hr := h.slot t hc
          generalize a.eval (.tmp t) = v at hr ⊢
          have hlt : n.toNat < es.length := (List.getElem?_eq_some_iff.1 he).1
          cases hr with
          | list _ sz blk o cap us hcap hω hltb hsz hnp hcell hrep =>
            have hsze := hsz e (List.mem_of_getElem? he)
            refine .sh (m := .cptr e 0) (key blk o es.length cap (by omega) hz) ?_ hx
            rw [show o + n.toNat * szOf P eT = o + n.toNat * szOf P eT + 0 from rfl]
            refine .cptr e 0 blk (o + n.toNat * szOf P eT) (us n.toNat) hω hltb (hnp e (List.mem_of_getElem? he)) ?_ (fun j c hj => hrep _ e he j c hj)
            intro j c hj
            have := hcell _ e he j c hj
            rw [← hl, hsze, Nat.add_assoc]; exact this
          | list0 A cap => simp at hlt
        · rename_i k hc
          split at hx
          · rename_i dp sz es foc hk
            obtain ⟨hlt, hs, hx⟩ := hx
            have hr := h.slot t hc
            generalize a.eval (.tmp t) = v at hr ⊢
            cases hr with
            | ref _ _ hb _ _ =>
              obtain ⟨hd, g1, e, xs, g2⟩ := h.objs k _ hk
              rw [hb] at g1; injection g1 with g1; subst g1
              obtain ⟨blk, cap, hvb, rfl⟩ := g2.hasBlk (by omega)
              refine .sh (m := .eref k sz n.toNat 0) (key blk 0 es.length cap (by omega) hz) ?_ hx
              rw [← hs, show 0 + n.toNat * sz = n.toNat * sz + 0 from by omega]
              exact .eref k sz n.toNat 0 blk es.length cap hb
          · exact hx.elim
        · exact hx.elim
      | const v => simp at hx
      | func f => simp at hx
      | global g => simp at hx
    · exact hx.elim
  · exact hx.elim

theorem bAt_get (s : ByteArray) (i : Nat) (h : i < s.size) : s[i]? = some s[i] ∧ bAt s i = ((s[i]).toNat : Int) := by
  refine ⟨by simp [h], ?_⟩
  unfold bAt
  have : s.data.getD i 0 = s[i] := by
    rw [Array.getD_eq_getD_getElem?, Array.getElem?_eq_getElem (by simpa using h)]; rfl
  rw [this]

theorem idx_ok (h : Rel γ ω w nt st a) {T : TypeId} {x i : Operand} (hx : idxP P st T x i K) : Gives P γ ω w (Instr.index T (a.eval x) (a.eval i)) K := by
  unfold idxP at hx
  split at hx
  · rename_i hk
    obtain ⟨d, hd, hkd⟩ := und_of_kd hk (by simp)
    have := tk_str hkd; subst this
    split at hx
    · rename_i s k n hs hn
      obtain ⟨h0, hlt, hx⟩ := hx
      have e1 := (h.val hs).str
      have e2 := (h.val hn).int
      rw [e1, e2]
      obtain ⟨g1, g2⟩ := bAt_get s n.toNat hlt
      refine .sh (v := .int .u8 (bAt s n.toNat)) ?_ (.int _ _) hx
      simp [Instr.index, run_asIntOf, run_underlying hd, h0, g1, g2]
    · exact hx.elim
  · exact hx.elim

theorem bnd_ok (h : Rel γ ω w nt st a) {d : Nat} {x : Option Operand} {n : Int} (hx : bndOf st d x = some n) : (x = none ∧ n = d) ∨ ∃ y k, x = some y ∧ a.eval y = .int k n := by
  cases x with
  | none => simp [bndOf] at hx; exact .inl ⟨rfl, hx.symm⟩
  | some y =>
    simp only [bndOf] at hx
    split at hx
    · rename_i k m hm
      injection hx with hx; subst hx
      exact .inr ⟨y, k, rfl, (h.val hm).int⟩
    · exact absurd hx (by simp)

theorem run_bounds (h : Rel γ ω w nt st a) (isS : Bool) (len cap : Nat) (hlc : len ≤ cap) {lo hi : Option Operand} {l u : Int} (hl : bndOf st 0 lo = some l) (hu : bndOf st len hi = some u) (h0 : 0 ≤ l) (h1 : l ≤ u) (h2 : u ≤ (len : Int)) :
    (Instr.sliceBounds isS len cap (lo.map a.eval) (hi.map a.eval) none).run P w = .ok (l.toNat, u.toNat, cap) w := by
  have key : ∀ (k : IntKind) (n : Int) (y : Nat) (c : BoundsCode), 0 ≤ n → n ≤ (y : Int) → (Instr.sliceBound (.int k n) y c).run P w = .ok n.toNat w := by
    intro k n y c g1 g2
    have : 0 ≤ n ∧ n ≤ (y : Int) := ⟨g1, g2⟩
    simp [Instr.sliceBound, run_asIntOf, this]
  have hul : u ≤ (cap : Int) := by omega
  have hlu : l ≤ (u.toNat : Int) := by omega
  rcases bnd_ok h hl with ⟨rfl, rfl⟩ | ⟨y, k, rfl, hy⟩ <;> rcases bnd_ok h hu with ⟨rfl, rfl⟩ | ⟨z, k', rfl, hz⟩
  · simp [Instr.sliceBounds]
  · simp [Instr.sliceBounds, hz, key k' u cap _ (by omega) hul]
  · simp [Instr.sliceBounds, hy, key k l len _ h0 (by omega)]
  · simp [Instr.sliceBounds, hy, hz, key k' u cap _ (by omega) hul, key k l u.toNat _ h0 hlu]
theorem slice_ok (h : Rel γ ω w nt st a) {T : TypeId} {x : Operand} {lo hi : Option Operand} (hx : sliceP P st T x lo hi K) : Gives P γ ω w (Instr.sliceAt T (a.eval x) (lo.map a.eval) (hi.map a.eval) none) K := by
  unfold sliceP at hx
  split at hx
  · rename_i hk
    obtain ⟨d, hd, hkd⟩ := und_of_kd hk (by simp)
    have := tk_str hkd; subst this
    split at hx
    · rename_i s hs
      have e1 := (h.val hs).str
      split at hx
      · rename_i l u hl hu
        obtain ⟨h0, h1, h2, hx⟩ := hx
        rw [e1]
        have hb := run_bounds (P := P) h false s.size s.size (Nat.le_refl _) hl hu h0 h1 h2
        refine .sh (v := .string (s.extract l.toNat u.toNat)) ?_ (.str _) hx
        simp [Instr.sliceAt, Instr.slice, run_underlying hd, hb]
      · exact hx.elim
    · exact hx.elim
  · rename_i eT hk
    obtain ⟨d, hd, hkd⟩ := und_of_kd hk (by simp)
    have := tk_slice hkd; subst this
    cases x with
    | tmp t =>
      simp only at hx
      split at hx
      · rename_i es hc
        split at hx
        · rename_i l u hl hu
          obtain ⟨h0, h1, h2, hz, hx⟩ := hx
          obtain ⟨tie, htie, hsze⟩ := szOf_ne hz.2
          have hr := h.slot t hc
          generalize a.eval (.tmp t) = v at hr ⊢
          cases hr with
          | list _ sz blk o cap us hcap hω hltb hsz hnp hcell hrep =>
            have hb := run_bounds (P := P) h true es.length cap hcap hl hu h0 h1 h2
            have hrun : (Instr.sliceAt T (.slice (some ⟨blk, o, none⟩) es.length cap) (lo.map a.eval) (hi.map a.eval) none).run P w =
                .ok (.slice (if cap = l.toNat then some ⟨blk, o, none⟩ else some ⟨blk, o + l.toNat * tie.size, none⟩) (u.toNat - l.toNat) (cap - l.toNat)) w := by
              simp [Instr.sliceAt, Instr.slice, run_underlying hd, hb, run_sizeT (ty_of htie), Addr.add_lit]
            refine .sh hrun ?_ hx
            have hlen : ((es.drop l.toNat).take (u.toNat - l.toNat)).length = u.toNat - l.toNat := by simp; omega
            by_cases he : u.toNat - l.toNat = 0
            · have hnil : (es.drop l.toNat).take (u.toNat - l.toNat) = [] := by rw [he]; rfl
              rw [hnil, he]
              exact .list0 _ _
            · have hcl : cap ≠ l.toNat := by omega
              rw [if_neg hcl]
              have hlt : l.toNat < es.length := by omega
              have hszt : sz = tie.size := by
                rw [hsze, ← hz.1 _ (List.getElem?_eq_getElem hlt)]
                exact (hsz _ (List.getElem_mem hlt)).symm
              have := Rep.list (γ := γ) (ω := ω) (w := w) ((es.drop l.toNat).take (u.toNat - l.toNat)) sz blk (o + l.toNat * tie.size) (cap - l.toNat) (fun j i => us (l.toNat + j) i) (by rw [hlen]; omega) hω hltb
                (fun e he => hsz e (List.mem_of_mem_drop (List.mem_of_mem_take he))) (fun e he => hnp e (List.mem_of_mem_drop (List.mem_of_mem_take he)))
                (fun j e hj i c hi => by
                  rw [List.getElem?_take] at hj
                  split at hj
                  · rw [List.getElem?_drop] at hj
                    have := hcell _ e hj i c hi
                    rw [← hszt, show o + l.toNat * sz + (j * sz + i) = o + ((l.toNat + j) * sz + i) from by rw [Nat.add_mul]; omega]
                    exact this
                  · simp at hj)
                (fun j e hj i c hi => by
                  rw [List.getElem?_take] at hj
                  split at hj
                  · rw [List.getElem?_drop] at hj
                    exact hrep _ e hj i c hi
                  · simp at hj)
              rw [hlen] at this
              exact this
          | list0 A cap =>
            have hb := run_bounds (P := P) h true 0 cap (by omega) hl hu h0 h1 h2
            have h2' : u ≤ 0 := h2
            have hl0 : l.toNat = 0 := by omega
            have hu0 : u.toNat = 0 := by omega
            have hrun : ∃ A', (Instr.sliceAt T (.slice A 0 cap) (lo.map a.eval) (hi.map a.eval) none).run P w = .ok (.slice A' 0 cap) w := by
              refine ⟨if cap = 0 then A else A.map (·.add 0), ?_⟩
              simp [Instr.sliceAt, Instr.slice, run_underlying hd, hb, run_sizeT (ty_of htie), hl0, hu0]
            obtain ⟨A', hrun⟩ := hrun
            refine .sh hrun ?_ hx
            simp
            exact .list0 _ _
        · exact hx.elim
      · exact hx.elim
    | const v => simp at hx
    | func f => simp at hx
    | global g => simp at hx
  · exact hx.elim
theorem nc_ok (h : Rel γ ω w nt st a) {x : Operand} (hx : ncP st x K) (o : Oper) (ho : o.op = .nilCheck x) : ∃ c, (execOp a.eval o).run P w = .ok (.value (a.eval x)) w ∧ Rep γ ω w c (a.eval x) ∧ K c := by
  cases x with
  | tmp t =>
    simp only [ncP] at hx
    split at hx
    · rename_i k off hc
      have hr := h.slot t hc
      refine ⟨.ptr k off, ?_, hr, hx⟩
      have hv : ∃ b, a.eval (.tmp t) = .pointer (some b) := by
        generalize a.eval (.tmp t) = v at hr
        cases hr; exact ⟨_, rfl⟩
      obtain ⟨b, hv⟩ := hv
      simp only [execOp, ho, hv]; rfl
    · rename_i cs off hc
      have hr := h.slot t hc
      refine ⟨.cptr cs off, ?_, hr, hx⟩
      have hv : ∃ b, a.eval (.tmp t) = .pointer (some b) := by
        generalize a.eval (.tmp t) = v at hr
        cases hr; exact ⟨_, rfl⟩
      obtain ⟨b, hv⟩ := hv
      simp only [execOp, ho, hv]; rfl
    · rename_i f cs hc
      have hr := h.slot t hc
      refine ⟨.fn f cs, ?_, hr, hx⟩
      have hv : ∃ vs, a.eval (.tmp t) = .func (.func f) #[] vs := by
        generalize a.eval (.tmp t) = v at hr
        cases hr; exact ⟨_, rfl⟩
      obtain ⟨vs, hv⟩ := hv
      simp only [execOp, ho, hv]; rfl
    · rename_i k sz i off hc
      have hr := h.slot t hc
      refine ⟨.eref k sz i off, ?_, hr, hx⟩
      have hv : ∃ b, a.eval (.tmp t) = .pointer (some b) := by
        generalize a.eval (.tmp t) = v at hr
        cases hr; exact ⟨_, rfl⟩
      obtain ⟨b, hv⟩ := hv
      simp only [execOp, ho, hv]; rfl
    · exact hx.elim
  | const v => simp [ncP] at hx
  | func f => simp only [ncP] at hx; exact ⟨.fn f [], by simp only [execOp, ho, Act.eval]; rfl, Rep.fn f [] [] rfl (by simp), hx⟩
  | global g => simp [ncP] at hx

theorem Val.map {m : List (MKey × MV)} {v : Value} (h : Val γ ω w (.map m) v) : (m = [] ∧ v = .map none) ∨ ∃ (blk : Nat) (es : List MapEntry) (clock : Nat), v = .map (some blk) ∧ w.heap[blk]? = some (.map es.toArray clock) ∧ es.length = m.length ∧ (∀ (i : Nat) (x : MKey × MV) (e : MapEntry), m[i]? = some x → es[i]? = some e → e.key = x.1.val ∧ np x.2 = true ∧ Rep γ ω w x.2 e.val) ∧ (∀ x ∈ m, ∀ y ∈ m, sameK x.1 y.1 = true) := by
  rcases h with h | ⟨k, sz, es, e, xs, h, _⟩ | ⟨k, mm, blk, es, clock, h, h2, hr⟩
  · cases h with
    | map _ blk es clock hω hb hl hn hk hv hlt hbn hnd hh => exact .inr ⟨blk, es, clock, rfl, hb, hl, fun i x e hx he => ⟨hk i x e hx he, hn x (List.mem_of_getElem? hx), hv i x e hx he⟩, hh⟩
    | map0 => exact .inl ⟨rfl, rfl⟩
  · exact absurd h (by simp)
  · injection h with h; subst h
    refine .inr ⟨blk, es, clock, h2, hr.heap, hr.len, fun i x e hx he => ?_, hr.same⟩
    have := hr.val i x e hx he
    simp only [lkK] at this
    exact ⟨hr.key i x e hx he, this.1 (by trivial), this.2.toRep (this.1 (by trivial))⟩

theorem len_ok (h : Rel γ ω w nt st a) {x : Operand} {m n : MV} (hs : shv st x = some m) {T : TypeId} (hl : lenC st (kdOf P T) m = some n) (ty : TypeId) (avs : Array TypeId) (has : avs[0]? = some T) :
    ∃ v', (Builtin.len_ avs ty #[a.eval x]).run P w = .ok v' w ∧ Rep γ ω w n v' := by
  have hr := h.shv hs
  have sl : ∀ {e : TypeId} (A : Option Addr) (n c : Nat), kdOf P T = .slice e → (Builtin.len_ avs ty #[.slice A n c]).run P w = .ok (.int .i64 n) w := by
    intro e A n c hk
    obtain ⟨d, h1, h2⟩ := und_of_kd hk (by simp); have := tk_slice h2; subst this
    simp [Builtin.len_, has, run_underlying h1, goInt]
  have mp : ∀ {k e : TypeId} (blk : Nat) (es : List MapEntry) (clock : Nat), kdOf P T = .map k e → w.heap[blk]? = some (.map es.toArray clock) → (Builtin.len_ avs ty #[.map (some blk)]).run P w = .ok (.int .i64 es.length) w := by
    intro k e blk es clock hk hb
    obtain ⟨d, h1, h2⟩ := und_of_kd hk (by simp); have := tk_map h2; subst this
    simp [Builtin.len_, has, run_underlying h1, goInt, getObj, Sem.run, hb]
  generalize a.eval x = v at hr ⊢
  generalize hkd : kdOf P T = kd at hl
  unfold lenC at hl
  split at hl
  · rename_i k
    cases hr with
    | ref _ _ hb _ _ =>
      split at hl
      · rename_i dp sz es foc hk2
        injection hl with hl; subst hl
        obtain ⟨hd2, g1, e, xs, g2⟩ := h.objs k _ hk2
        rw [hb] at g1; injection g1 with g1; subst g1
        obtain ⟨A, cap, rfl⟩ := row_slice g2.own
        exact ⟨_, sl _ _ _ hkd, .int _ _⟩
      · exact absurd hl (by simp)
  · rename_i k
    cases hr with
    | ref _ _ hb _ _ =>
      split at hl
      · rename_i dp es foc hk2
        injection hl with hl; subst hl
        obtain ⟨hd2, g1, blk, es', clock, g2, g3⟩ := h.objs k _ hk2
        rw [hb] at g1; injection g1 with g1; subst g1
        subst g2
        exact ⟨_, mp _ _ _ hkd g3.heap, by rw [g3.len]; exact .int _ _⟩
      · exact absurd hl (by simp)
  · injection hl with hl; subst hl
    cases hr
    · exact ⟨_, sl _ _ _ hkd, .int _ _⟩
    · exact ⟨_, sl _ _ _ hkd, .int _ _⟩
  · injection hl with hl; subst hl
    cases hr; exact ⟨_, sl _ _ _ hkd, .int _ _⟩
  · injection hl with hl; subst hl
    cases hr with
    | map _ blk es clock hω hb hlen => exact ⟨_, mp _ _ _ hkd hb, by rw [hlen]; exact .int _ _⟩
    | map0 =>
      obtain ⟨d, h1, h2⟩ := und_of_kd hkd (by simp); have := tk_map h2; subst this
      exact ⟨.int .i64 (0 : Nat), by simp [Builtin.len_, has, run_underlying h1, goInt], .int _ _⟩
  · injection hl with hl; subst hl
    obtain ⟨d, h1, h2⟩ := und_of_kd hkd (by simp); have := tk_str h2; subst this
    cases hr
    exact ⟨_, by simp [Builtin.len_, has, run_underlying h1, goInt], .int _ _⟩
  · exact absurd hl (by simp)

theorem mm_ok (mx : Bool) {ms : List MV} {vs : List Value} (hl : vs.length = ms.length) (hv : ∀ (i : Nat) (c : MV) (v : Value), ms[i]? = some c → vs[i]? = some v → Val γ ω w c v) {K : MV → Prop} (h : mmP mx ms K) (ty : TypeId) (avs : Array TypeId) :
    ∃ m' v', (if mx then Builtin.max_ avs ty vs.toArray else Builtin.min_ avs ty vs.toArray).run P w = .ok v' w ∧ Rep γ ω w m' v' ∧ K m' := by
  unfold mmP at h
  split at h
  · rename_i k x k' y
    match vs, hl with
    | [u, v], _ =>
      have e1 := (hv 0 _ u rfl rfl).int
      have e2 := (hv 1 _ v rfl rfl).int
      subst e1; subst e2
      refine ⟨_, _, ?_, .int _ _, h⟩
      cases mx <;> simp [Builtin.max_, Builtin.min_, Builtin.max2, Builtin.min2, mm2, List.foldlM]
  · rename_i k x k' y k'' z
    match vs, hl with
    | [u, v, t], _ =>
      have e1 := (hv 0 _ u rfl rfl).int
      have e2 := (hv 1 _ v rfl rfl).int
      have e3 := (hv 2 _ t rfl rfl).int
      subst e1; subst e2; subst e3
      refine ⟨_, _, ?_, .int _ _, h⟩
      cases mx <;> simp [Builtin.max_, Builtin.min_, Builtin.max2, Builtin.min2, mm2, List.foldlM]
  · exact h.elim
/-! #### lookup -/
theorem sameK_trans {a b c : MKey} (h1 : sameK a b = true) (h2 : sameK a c = true) : sameK b c = true := by
  cases a <;> cases b <;> simp [sameK] at h1 <;> cases c <;> simp [sameK] at h2 ⊢
  · rw [← h1, h2]
  · rw [← h1, h2]

theorem byte_eq (a b : ByteArray) : (a == b) = decide (a = b) := by
  rw [beq_toListBytes]; exact bytes_eq0 a b

/-- Scalar keys are found at once. -/
theorem sameNow_ok {kT : TypeId} {d : TypeDesc} (hd : tkOf d = kdOf P kT) {kv : MV} {k : MKey} (hk : keyT (kdOf P kT) kv = some k) {k' : MKey} (hs : sameK k' k = true) : Instr.sameNow d k.val k'.val = some (decide (k = k')) := by
  rw [← hd] at hk
  unfold keyT at hk
  split at hk
  · rename_i s hkd
    injection hk with hk; subst hk
    have := tk_str hkd; subst this
    cases k' <;> simp [sameK] at hs
    simp [MKey.val, Instr.sameNow, byte_eq]
  · rename_i kk k2 n hkd
    have := tk_int hkd; subst this
    split at hk
    · rename_i e; subst e
      injection hk with hk; subst hk
      cases k' <;> simp [sameK] at hs
      subst hs
      simp [MKey.val, Instr.sameNow, BEq.beq]
    · exact absurd hk (by simp)
  · rename_i b hkd
    injection hk with hk; subst hk
    have := tk_bool hkd; subst this
    cases k' <;> simp [sameK] at hs
    simp [MKey.val, Instr.sameNow]
    rename_i b'
    cases b <;> cases b' <;> rfl
  · exact absurd hk (by simp)

theorem findNow_ok {kT : TypeId} {d : TypeDesc} (hd : tkOf d = kdOf P kT) {kv : MV} {k : MKey} (hk : keyT (kdOf P kT) kv = some k) : ∀ (m : List (MKey × MV)) (es : List MapEntry) (i : Nat), es.length = m.length →
    (∀ (j : Nat) (x : MKey × MV) (e : MapEntry), m[j]? = some x → es[j]? = some e → e.key = x.1.val) → (∀ x ∈ m, sameK x.1 k = true) →
    (mfind m k i = none ∧ Instr.findNow d k.val es i = some none) ∨ ∃ j v e, mfind m k i = some (i + j, v) ∧ m[j]? = some (k, v) ∧ es[j]? = some e ∧ Instr.findNow d k.val es i = some (some (i + j, e.val))
  | [], [], i, hl, hkk, hs => .inl ⟨rfl, rfl⟩
  | [], _ :: _, i, hl, hkk, hs => by simp at hl
  | _ :: _, [], i, hl, hkk, hs => by simp at hl
  | (k', v) :: m, e :: es, i, hl, hkk, hs => by
    have h0 := hkk 0 (k', v) e rfl rfl
    have hsn := sameNow_ok hd hk (hs (k', v) (by simp))
    simp only [Instr.findNow, h0, hsn, mfind]
    by_cases hkk' : k = k'
    · subst hkk'
      simp only [decide_true, if_true]
      exact .inr ⟨0, v, e, rfl, rfl, rfl, rfl⟩
    · simp only [decide_eq_false hkk', if_neg hkk']
      rcases findNow_ok hd hk m es (i + 1) (by simpa using hl) (fun j x e hx he => hkk (j + 1) x e (by simpa using hx) (by simpa using he)) (fun x hx => hs x (by simp [hx])) with h1 | ⟨j, v', e', h1, h2, h3, h4⟩
      · exact .inl h1
      · exact .inr ⟨j + 1, v', e', by rw [h1, show i + 1 + j = i + (j + 1) from by omega], by simpa using h2, by simpa using h3, by rw [h4, show i + 1 + j = i + (j + 1) from by omega]⟩

theorem kOk_all {m : List (MKey × MV)} {k : MKey} (h : kOkM m k = true) (hh : ∀ x ∈ m, ∀ y ∈ m, sameK x.1 y.1 = true) : ∀ x ∈ m, sameK x.1 k = true := by
  intro x hx
  match m, h, hx, hh with
  | (k0, v0) :: r, h, hx, hh => exact sameK_trans (hh (k0, v0) (by simp) x hx) h

theorem run_checkKey {kT : TypeId} {d : TypeDesc} (hu : P.underlying kT = some d) (hd : tkOf d = kdOf P kT) {kv : MV} {k : MKey} (hk : keyT (kdOf P kT) kv = some k) (b : Bool) : (Instr.checkKey b 10000 kT k.val).run P w = .ok () w := by
  rw [← hd] at hk
  have key : ∀ n, (Instr.checkKey b (n + 1) kT k.val).run P w = .ok () w := by
    intro n
    unfold keyT at hk
    split at hk
    · rename_i s hkd
      injection hk with hk; subst hk
      have := tk_str hkd; subst this
      simp [Instr.checkKey, run_underlying hu, MKey.val]
    · rename_i kk k2 n hkd
      have := tk_int hkd; subst this
      split at hk
      · injection hk with hk; subst hk
        simp [Instr.checkKey, run_underlying hu, MKey.val]
      · exact absurd hk (by simp)
    · rename_i b' hkd
      injection hk with hk; subst hk
      have := tk_bool hkd; subst this
      simp [Instr.checkKey, run_underlying hu, MKey.val]
    · exact absurd hk (by simp)
  exact key 9999

/-- The entry of a key, or none. -/
theorem run_findKey {kT : TypeId} {d : TypeDesc} (hu : P.underlying kT = some d) (hd : tkOf d = kdOf P kT) {kv : MV} {k : MKey} (hk : keyT (kdOf P kT) kv = some k) {m : List (MKey × MV)} {es : List MapEntry} (hl : es.length = m.length)
    (hkk : ∀ (j : Nat) (x : MKey × MV) (e : MapEntry), m[j]? = some x → es[j]? = some e → e.key = x.1.val) (hs : ∀ x ∈ m, sameK x.1 k = true) :
    (mfind m k 0 = none ∧ (Instr.findKey kT k.val es).run P w = .ok none w) ∨ ∃ j v e, mfind m k 0 = some (j, v) ∧ m[j]? = some (k, v) ∧ es[j]? = some e ∧ (Instr.findKey kT k.val es).run P w = .ok (some (j, e.val)) w := by
  rcases findNow_ok hd hk m es 0 hl hkk hs with ⟨h1, h2⟩ | ⟨j, v, e, h1, h2, h3, h4⟩
  · exact .inl ⟨h1, by simp [Instr.findKey, run_underlying hu, h2]⟩
  · rw [Nat.zero_add] at h1 h4
    exact .inr ⟨j, v, e, h1, h2, h3, by simp [Instr.findKey, run_underlying hu, h4]⟩

theorem keyT_rep {t : TK} {kv : MV} {k : MKey} (hk : keyT t kv = some k) {v : Value} (hv : Val γ ω w kv v) : v = k.val := by
  unfold keyT at hk
  split at hk
  · injection hk with hk; subst hk; exact hv.str
  · split at hk
    · rename_i e; subst e; injection hk with hk; subst hk; exact hv.int
    · exact absurd hk (by simp)
  · injection hk with hk; subst hk; exact hv.bool
  · exact absurd hk (by simp)

theorem zeroM_rep {T : TypeId} {ti : TI} (hT : Ty P T ti) : ∃ z, (zeroValue T).run P w = .ok z w ∧ Rep γ ω w (zeroM ti) z := by
  obtain ⟨z, h1, h2, h3⟩ := run_zeroT (w := w) hT
  refine ⟨z, h1, ?_⟩
  obtain ⟨g1, g2, g3⟩ := zerosOf_rep (γ := γ) (ω := ω) (w := w) h2
  unfold zeroM
  cases hk : aggKd ti.kd with
  | true =>
    rw [hk] at h3
    simp only
    cases z <;> simp [isAggV] at h3
    rename_i cs
    have := Rep.agg (γ := γ) (ω := ω) (w := w) ti.zero cs.toList g1 g3 g2
    simpa using this
  | false =>
    rw [hk] at h3
    simp only
    split
    · rename_i m hm
      rw [hm] at g1 g3
      have hc : z.cells = #[z] := by cases z <;> first | rfl | simp [isAggV] at h3
      rw [hc] at g3
      exact g3 0 m z rfl rfl
    · exact .gone _

theorem look_ok (h : Rel γ ω w nt st a) {T : TypeId} {x i : Operand} {ok : Bool} (hx : lookP P st T x i ok K) : Gives P γ ω w (Instr.lookup T (a.eval x) (a.eval i) ok) K := by
  unfold lookP at hx
  split at hx
  · rename_i kT eT hk
    obtain ⟨d, hd, hkd⟩ := und_of_kd hk (by simp)
    have := tk_map hkd; subst this
    split at hx
    · rename_i m kv ti hm hkv hti
      split at hx
      · rename_i k hkk
        obtain ⟨hok, hx⟩ := hx
        have hkv' := keyT_rep hkk (h.val hkv)
        have hkd2 : kdOf P kT ≠ .other := by intro e; rw [e] at hkk; simp [keyT] at hkk
        obtain ⟨d2, hd2, hkd3⟩ := und_of_kd rfl hkd2
        obtain ⟨z, hz1, hz2⟩ := zeroM_rep (γ := γ) (ω := ω) (w := w) (ty_of hti)
        rcases (h.val hm).map with ⟨rfl, hv⟩ | ⟨blk, es, clock, hv, hb, hl, hrr, hh⟩
        · have hrun : (Instr.lookup T (a.eval x) (a.eval i) ok).run P w = .ok (if ok = true then .tuple #[z, .bool false] else z) w := by
            rw [hv, hkv']
            simp [Instr.lookup, run_underlying hd, run_checkKey hd2 hkd3 hkk, Instr.findKey, run_underlying hd2, Instr.findNow, hz1]
          simp only [mget, mfind, Option.map_none] at hx
          refine ⟨_, _, hrun, ?_, hx⟩
          cases ok
          · exact hz2
          · have := Rep.tup (γ := γ) (ω := ω) (w := w) [zeroM ti, .bool false] [z, .bool false] rfl (by
              intro i c v hc hv
              match i with
              | 0 => simp at hc hv; subst hc; subst hv; exact hz2
              | 1 => simp at hc hv; subst hc; subst hv; exact .bool _
              | i + 2 => simp at hc)
            simpa using this
        · have hall := kOk_all hok hh
          rcases run_findKey (w := w) hd2 hkd3 hkk hl (fun j x e h1 h2 => (hrr j x e h1 h2).1) hall with ⟨h1, h2⟩ | ⟨j, v, e, h1, h2, h3, h4⟩
          · have hrun : (Instr.lookup T (a.eval x) (a.eval i) ok).run P w = .ok (if ok = true then .tuple #[z, .bool false] else z) w := by
              rw [hv, hkv']
              simp [Instr.lookup, run_underlying hd, run_checkKey hd2 hkd3 hkk, getObj, Sem.run, hb, h2, hz1]
            simp only [mget, h1, Option.map_none] at hx
            refine ⟨_, _, hrun, ?_, hx⟩
            cases ok
            · exact hz2
            · have := Rep.tup (γ := γ) (ω := ω) (w := w) [zeroM ti, .bool false] [z, .bool false] rfl (by
                intro i c v hc hv
                match i with
                | 0 => simp at hc hv; subst hc; subst hv; exact hz2
                | 1 => simp at hc hv; subst hc; subst hv; exact .bool _
                | i + 2 => simp at hc)
              simpa using this
          · have hrun : (Instr.lookup T (a.eval x) (a.eval i) ok).run P w = .ok (if ok = true then .tuple #[e.val, .bool true] else e.val) w := by
              rw [hv, hkv']
              simp [Instr.lookup, run_underlying hd, run_checkKey hd2 hkd3 hkk, getObj, Sem.run, hb, h4]
            simp only [mget, h1, Option.map_some] at hx
            have hr := (hrr j _ e h2 h3).2.2
            refine ⟨_, _, hrun, ?_, hx⟩
            cases ok
            · exact hr
            · have := Rep.tup (γ := γ) (ω := ω) (w := w) [v, .bool true] [e.val, .bool true] rfl (by
                intro i c v hc hv
                match i with
                | 0 => simp at hc hv; subst hc; subst hv; exact hr
                | 1 => simp at hc hv; subst hc; subst hv; exact .bool _
                | i + 2 => simp at hc)
              simpa using this
      · exact hx.elim
    · exact hx.elim
  · exact hx.elim

theorem opv_ok {x : Operand} {m : MV} (h : opv st x = some m) : m ≠ .gone ∧ ∀ k, m ≠ .ref k := by
  have hz : ∀ {v : Value} {m : MV}, mvConst v = some m → m ≠ .gone ∧ ∀ k, m ≠ .ref k := by
    intro v m hm
    unfold mvConst at hm
    split at hm
    · rename_i cs
      cases hq : zerosOf cs.toList with
      | none => rw [hq] at hm; simp at hm
      | some l => rw [hq] at hm; simp at hm; subst hm; simp
    · unfold mvZero at hm
      split at hm <;> first | (injection hm with hm; subst hm; simp) | exact absurd hm (by simp)
  have ht : ∀ m : MV, (m ≠ .gone ∧ ∀ k, m ≠ .ref k) → m.top ≠ .gone ∧ ∀ k, m.top ≠ .ref k := by
    intro m hm
    cases m <;> first | exact hm | simp [MV.top]
  cases x with
  | tmp t =>
    simp only [opv] at h
    unfold rdc at h
    split at h
    · split at h <;> first | (injection h with h; subst h; simp) | exact absurd h (by simp)
    · exact absurd h (by simp)
    · rename_i h1 h2
      injection h with h; subst h
      exact ht _ ⟨h2, h1⟩
  | const v =>
    simp only [opv] at h
    cases hm : mvConst v with
    | none => rw [hm] at h; simp at h
    | some m' => rw [hm] at h; simp at h; subst h; exact ht _ (hz hm)
  | func f => simp only [opv] at h; injection h with h; subst h; simp
  | global g => simp [opv] at h

theorem noNilIface {m : MV} {v : Value} (h : Val γ ω w m v) (hg : m ≠ .gone ∧ ∀ k, m ≠ .ref k) : v = .nilIface → m = .nilifc := by
  intro e
  subst e
  rcases h with h | ⟨_, _, _, _, _, _, h⟩ | ⟨_, _, _, _, _, _, h, _⟩
  · generalize hv : Value.nilIface = v at h
    cases h <;> first | rfl | exact absurd hv (by simp) | (subst hv; simp at hg)
  · obtain ⟨A, cap, h1⟩ := row_slice h.own; exact absurd h1 (by simp)
  · exact absurd h (by simp)

/-- ALL OPERATIONS THAT CHANGE NOTHING. -/
theorem pure_ok (h : Rel γ ω w nt st a) {o : Oper} (hx : pureP P st o.op K) : ∃ c v, (execOp a.eval o).run P w = .ok (.value v) w ∧ Rep γ ω w c v ∧ K c := by
  have fin : ∀ {s : Sem Value}, Gives P γ ω w s K → (∀ v, s.run P w = .ok v w → (execOp a.eval o).run P w = .ok (.value v) w) → ∃ c v, (execOp a.eval o).run P w = .ok (.value v) w ∧ Rep γ ω w c v ∧ K c := by
    rintro s ⟨c, v, h1, h2, h3⟩ hs
    exact ⟨c, v, hs v h1, h2, h3⟩
  obtain ⟨dst, op, ty, pos, after, guard⟩ := o
  cases op with
  | move x => obtain ⟨c, h1, h2⟩ := mov_ok h hx; exact ⟨c, _, by simp [execOp], h1, h2⟩
  | binOp op T x y yT =>
    simp only [pureP, binE] at hx
    split at hx
    · rename_i hnil
      have hy : a.eval y = .slice none 0 0 := by
        unfold isNilC at hnil
        split at hnil
        · rfl
        · exact absurd hnil (by simp)
      split at hx
      · rename_i b hb
        have hxv : (b = true ∧ a.eval x = .slice none 0 0) ∨ (b = false ∧ ∃ ad n c, a.eval x = .slice (some ad) n c) := by
          cases x with
          | tmp t =>
            simp only [nilness] at hb
            split at hb
            · rename_i hc
              injection hb with hb
              have hr : Rep γ ω w .nil (a.eval (.tmp t)) := h.slot t hc
              generalize a.eval (.tmp t) = v at hr ⊢
              cases hr; exact .inl ⟨hb.symm, rfl⟩
            · exact absurd hb (by simp)
          | _ => simp [nilness] at hb
        have hrun : ∀ T, (∃ e, kdOf P T = .slice e) → (Op.equal T (a.eval x) (.slice none 0 0)).run P w = .ok b w := by
          rintro T ⟨e, he⟩
          rcases hxv with ⟨rfl, hv⟩ | ⟨rfl, ad, n, c, hv⟩
          · rw [hv]; exact run_eqlNil he
          · rw [hv]; exact run_eqlSlice he
        have hg : (eqGuard op T x y (a.eval x) (.slice none 0 0)).run P w = .ok () w := by
          rcases hxv with ⟨_, hv⟩ | ⟨_, ad, n, c, hv⟩ <;> rw [hv] <;> exact eqGuard_int (by simp) (by simp)
        have hbin : ∀ (v : Value), (op = .eql ∧ v = .bool b) ∨ (op = .neq ∧ v = .bool !b) → (∃ e, kdOf P T = .slice e) → (binOp op T (a.eval x) (.slice none 0 0)).run P w = .ok v w := by
          intro v hv hk
          have := hrun T hk
          rcases hxv with ⟨_, e⟩ | ⟨_, ad, n, c, e⟩ <;> rw [e] at this ⊢ <;> rcases hv with ⟨rfl, rfl⟩ | ⟨rfl, rfl⟩ <;> simp [binOp, this]
        split at hx
        · refine ⟨.bool b, .bool b, ?_, Rep.bool _, hx.2⟩
          simp [execOp, hy, hg, hbin (.bool b) (.inl ⟨rfl, rfl⟩) hx.1]
        · refine ⟨.bool !b, .bool !b, ?_, Rep.bool _, hx.2⟩
          simp [execOp, hy, hg, hbin (.bool !b) (.inr ⟨rfl, rfl⟩) hx.1]
        · exact hx.elim
      · split at hx
        rotate_left
        · exact hx.elim
        rename_i es hes
        obtain ⟨ad, n, c, hv, hnil⟩ : ∃ ad n c, a.eval x = .slice ad n c ∧ (ad = none → es = []) := by
          cases x with
          | tmp t =>
            simp only [nilL] at hes
            split at hes
            · rename_i es' hc
              injection hes with hes; subst hes
              have hr := h.slot t hc
              generalize a.eval (.tmp t) = v at hr ⊢
              cases hr with
              | list => exact ⟨_, _, _, rfl, fun q => by simp at q⟩
              | list0 A cap => exact ⟨_, _, _, rfl, fun _ => rfl⟩
            · rename_i k hc
              split at hes
              · rename_i dp sz es' foc hk
                injection hes with hes; subst hes
                have hr := h.slot t hc
                generalize a.eval (.tmp t) = v at hr ⊢
                cases hr with
                | ref _ _ hb2 _ _ =>
                  obtain ⟨hd, g1, e, xs, g2⟩ := h.objs k _ hk
                  rw [hb2] at g1; injection g1 with g1; subst g1
                  rcases g2.own.2 with ⟨q1, q2⟩ | ⟨g, cap', cur, heq, _⟩
                  · exact ⟨_, _, _, q1, fun _ => List.length_eq_zero_iff.1 q2⟩
                  · exact ⟨_, _, _, heq, fun q => by simp at q⟩
              · exact absurd hes (by simp)
            · exact absurd hes (by simp)
          | _ => simp [nilL] at hes
        have hbin : ∀ (v : Value), (op = .eql ∧ v = .bool ad.isNone) ∨ (op = .neq ∧ v = .bool !ad.isNone) → (∃ e, kdOf P T = .slice e) → (binOp op T (.slice ad n c) (.slice none 0 0)).run P w = .ok v w := by
          rintro v hv2 ⟨e, he⟩
          have : (Op.equal T (.slice ad n c) (.slice none 0 0)).run P w = .ok ad.isNone w := by
            cases ad with
            | none => exact run_eqlNil2 he
            | some ad => exact run_eqlSlice he
          rcases hv2 with ⟨rfl, rfl⟩ | ⟨rfl, rfl⟩ <;> simp [binOp, this]
        have hg : (eqGuard op T x y (.slice ad n c) (.slice none 0 0)).run P w = .ok () w := eqGuard_int (by simp) (by simp)
        split at hx
        · refine ⟨.bool ad.isNone, .bool ad.isNone, ?_, Rep.bool _, ?_⟩
          · simp [execOp, hy, hv, hg, hbin (.bool ad.isNone) (.inl ⟨rfl, rfl⟩) hx.1]
          · cases ad with
            | none => exact hx.2.2 (hnil rfl)
            | some ad => exact hx.2.1
        · refine ⟨.bool !ad.isNone, .bool !ad.isNone, ?_, Rep.bool _, ?_⟩
          · simp [execOp, hy, hv, hg, hbin (.bool !ad.isNone) (.inr ⟨rfl, rfl⟩) hx.1]
          · cases ad with
            | none => exact hx.2.2 (hnil rfl)
            | some ad => exact hx.2.1
        · exact hx.elim
    · split at hx
      · rename_i m1 m2 e1 e2
        obtain ⟨hn, hx⟩ := hx
        refine fin (s := do eqGuard op T x y (a.eval x) (a.eval y); binOp op T (a.eval x) (a.eval y)) ?_ (fun v hv => by simp only [execOp, Sem.run_bind] at hv ⊢; rw [hv]; rfl)
        exact binP_run (h.val e1) (h.val e2) hx x y (fun e => by
          have := noNilIface (h.val e1) (opv_ok e1) e
          subst this
          have hn' := hn rfl
          cases y <;> simp at hn'
          exact ⟨_, rfl⟩)
      · exact hx.elim
  | pick c x y =>
    simp only [pureP] at hx
    split at hx
    · rename_i b e
      have hc := (h.val e).bool
      split at hx
      · rename_i hb
        subst hb
        split at hx
        · rename_i m hm
          exact ⟨m, a.eval x, by simp [execOp, hc, asBool], h.shv hm, hx⟩
        · exact hx.elim
      · rename_i hb
        have hb' : b = false := by simpa using hb
        subst hb'
        split at hx
        · rename_i m hm
          exact ⟨m, a.eval y, by simp [execOp, hc, asBool], h.shv hm, hx⟩
        · exact hx.elim
    · exact hx.elim
  | unOp op T x =>
    simp only [pureP] at hx
    split at hx
    · rename_i m e
      exact fin (un_ok (h.val e) hx) (fun v hv => by simp [execOp, hv])
    · exact hx.elim
  | convert s d x =>
    simp only [pureP] at hx
    split at hx
    · rename_i m e
      exact fin (conv_ok (h.val e) hx) (fun v hv => by simp [execOp, hv])
    · exact hx.elim
  | extract x i => exact fin (ext_ok h hx) (fun v hv => by simp [execOp, hv])
  | load T x => exact fin (load_ok h hx) (fun v hv => by simp [execOp, hv])
  | fieldAddr T x f => exact fin (fa_ok h hx) (fun v hv => by simp [execOp, hv])
  | field T x f => exact fin (field_ok h hx) (fun v hv => by simp [execOp, hv])
  | indexAddr T x i => exact fin (ia_ok h hx) (fun v hv => by simp [execOp, hv])
  | index T x i => exact fin (idx_ok h hx) (fun v hv => by simp [execOp, hv])
  | slice T x lo hi mx =>
    cases mx with
    | none => exact fin (slice_ok h hx) (fun v hv => by simp [execOp, hv])
    | some y => simp [pureP] at hx
  | lookup T x i ok => exact fin (look_ok h hx) (fun v hv => by simp [execOp, hv])
  | nilCheck x =>
    obtain ⟨c, h1, h2, h3⟩ := nc_ok (P := P) h hx ⟨dst, .nilCheck x, ty, pos, after, guard⟩ rfl
    exact ⟨c, _, h1, h2, h3⟩
  | makeFunc fn fs cs =>
    cases fn with
    | func f =>
      simp only [pureP] at hx
      obtain ⟨hf, hx⟩ := hx
      split at hx
      · rename_i ms e
        obtain ⟨h1, h2⟩ := shvs_rep h e
        have hfs : fs = #[] := by simpa using hf
        subst hfs
        refine ⟨.fn f ms, .func (.func f) #[] (cs.toList.map a.eval).toArray, ?_, Rep.fn f ms _ h1 h2, hx⟩
        have : cs.map a.eval = (cs.toList.map a.eval).toArray := Array.ext' (by simp)
        simp [execOp, Instr.makeFunc, this]
      · exact hx.elim
    | _ => simp [pureP] at hx
  | call c =>
    obtain ⟨callee, args, argTypes⟩ := c
    simp only [pureP] at hx
    split at hx
    · split at hx
      · rename_i x hargs
        have hargs' : args = #[x] := by
          have := congrArg List.toArray hargs
          simpa using this
        subst hargs'
        obtain ⟨hne, hx⟩ := hx
        split at hx
        · rename_i m e
          split at hx
          · rename_i n e2
            have has : argTypes[0]? = some (argTypes.getD 0 0) := by
              rw [Array.getD_eq_getD_getElem?]
              rw [Array.getElem?_eq_getElem (by omega)]; rfl
            obtain ⟨v', g1, g2⟩ := len_ok (P := P) h e e2 ty argTypes has
            exact ⟨n, v', by simp [execOp, resolve, invoke, builtin, g1], g2, hx⟩
          · exact hx.elim
        · exact hx.elim
      · exact hx.elim
    · split at hx
      · rename_i ms e
        obtain ⟨h1, h2⟩ := opvs_val h e
        have := mm_ok (P := P) false h1 h2 hx ty argTypes
        simp only [Bool.false_eq_true, if_false] at this
        refine fin this (fun v hv => ?_)
        have e' : args.map a.eval = (args.toList.map a.eval).toArray := Array.ext' (by simp)
        simp [execOp, resolve, invoke, builtin, e', hv]
      · exact hx.elim
    · split at hx
      · rename_i ms e
        obtain ⟨h1, h2⟩ := opvs_val h e
        have := mm_ok (P := P) true h1 h2 hx ty argTypes
        simp only [if_true] at this
        refine fin this (fun v hv => ?_)
        have e' : args.map a.eval = (args.toList.map a.eval).toArray := Array.ext' (by simp)
        simp [execOp, resolve, invoke, builtin, e', hv]
      · exact hx.elim
    · exact hx.elim
  | _ => simp [pureP] at hx
end
end Go.Pv
