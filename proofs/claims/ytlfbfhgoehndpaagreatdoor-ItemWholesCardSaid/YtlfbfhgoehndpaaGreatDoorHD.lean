/- The library of this work, H texts, part D: the operations that change nothing, as functions. -/
import Derived.Test.YtlfbfhgoehndpaaGreatDoorHC
set_option linter.unusedVariables false
set_option linter.unusedSimpArgs false
noncomputable section
namespace Go.Pv

abbrev Res := List MV
abbrev Out := Option (Res × Bxs)

inductive Bs where
  | int (k : IntKind) | bool | str | list | map | any | ref (k : Nat) | ptr (k o : Nat) | sq

inductive Sh where
  | c (b : Bs) | agg (l : List Bs)

/-- What an object is, behind a call. -/
inductive OS where
  | gone | box (l : List Bs) | row (dp : Bool) (sz : Nat) | mp (dp : Bool) | bld

/-- A plan for a region whose order is open. -/
inductive Sd where
  | fin
  | reg (i : Nat) (r : Sd)
  | take (i : Nat) (r : Sd)
  | one (j : Nat) (S R : List Nat) (r : Sd)
  | two (j : Nat) (S R : List Nat) (r : Sd) (more : Sd)

def altsD : Sd → List Nat
  | .two j _ _ _ m => j :: altsD m
  | .one j _ _ _ => [j]
  | _ => []

/-- A plan beside the code. -/
inductive Pl where
  | leaf
  | draw (s : Sd)
  | late (l : List Nat) (s : Sd)
  | seq (a : Pl) (k : List Nat) (b : Pl)
  | cond (k : List Nat) (a b : Pl)
  | one (a : Pl)
  | loop (k : List Nat) (a : Pl)
  | frz (t : Nat) (a : Pl)
  | shr (ts : List Nat) (a : Pl)
  | own (l : List (Nat × Nat × Nat)) (a : Pl)
  | cut (a : Pl)

/-- What the table says of a function (sp: slots of calls that go to a variant of the callee, and which one): its plan; slots of frozen boxes; slots whose zeros stay nil; slots of deep rows and maps; what it hands back; its arguments that are handed over as objects; the objects behind it. -/
structure FnP where
  pl : Pl
  fz : List Nat
  nk : List Nat
  hd : List Nat
  sg : List Sh
  pm : List Bool
  os : Option (List OS)
  sp : List (Nat × Nat) := []

structure Env where
  fu : Nat
  ty : List (Nat × TI)
  eq : List (Nat × List TK)
  fn : List (Nat × FnP)
  sp : List (Nat × FnP) := []

def lkN {β : Type} : List (Nat × β) → Nat → Option β
  | [], _ => none
  | (k, x) :: r, i => match Nat.beq k i with
    | true => some x
    | false => lkN r i

section
variable {α : Type}

/-! ### Tests, and parts of values -/
/- The kernel unfolds what stands higher first: the words of the first kind (which ask about numbers) stand lowest, so that none of them is unfolded while two texts are compared. -/
def gd (p : Prop) [Decidable p] (o : Option α) : Option α := if p then o else none
def gL (n : Nat) (o : Option α) : Option α := if n ≤ 1000000000 then o else none
/-- An element of a row. -/
def rd (es : List (List MV)) (i : Int) (K : List MV → Option α) : Option α := if 0 ≤ i then (match es[i.toNat]? with
  | some e => K e
  | none => none) else none
def rdN (es : List (List MV)) (i : Nat) (K : List MV → Option α) : Option α := match es[i]? with
  | some e => K e
  | none => none
def ixG (n : Nat) (i : Int) (o : Option α) : Option α := if 0 ≤ i ∧ i.toNat < n then o else none
def ixS (s : ByteArray) (i : Int) (K : Int → Option α) : Option α := if 0 ≤ i ∧ i.toNat < s.size then K (bAt s i.toNat) else none
def slS (s : ByteArray) (l h : Int) (K : ByteArray → Option α) : Option α := if 0 ≤ l ∧ l ≤ h ∧ h ≤ (s.size : Int) then K (s.extract l.toNat h.toNat) else none
def widAt (sz : Nat) (es : List (List MV)) (i : Nat) : Bool := match es[i]? with
  | some e => Nat.beq e.length sz
  | none => true
def slL (sz : Nat) (es : List (List MV)) (l h : Int) (K : List (List MV) → Option α) : Option α :=
  if (0 ≤ l ∧ l ≤ h ∧ h ≤ (es.length : Int)) ∧ widAt sz es l.toNat = true then K ((es.drop l.toNat).take (h.toNat - l.toNat)) else none
def npG (l : List MV) (o : Option α) : Option α := match npL l with
  | true => o
  | false => none
def stG (a b : ByteArray) (o : Option α) : Option α := if a.size + b.size ≤ 9223372036854775807 then o else none

/-- A key of the map's kind. -/
def gK (m : List (MKey × MV)) (k : MKey) (o : Option α) : Option α := match kOkM m k with
  | true => o
  | false => none
/-- What a map has of a key. -/
def mgE (m : List (MKey × MV)) (k : MKey) (z : MV) (K : Bool → MV → Option α) : Option α := match mget m k with
  | some v => K true v
  | none => K false z

/-- Both come to one. -/
def both (a b : Option α) : Option α := open Classical in if a = b then a else none
/-- A slice may be nil if it is empty: what comes if it is, what comes if not. -/
def nilB (es : List (List MV)) (a b : Option α) : Option α := match es with
  | [] => both a b
  | _ :: _ => b

/-- Higher than those. -/
def tall (α : Type) : Prop := @nilB α = @nilB α ∧ @gK α = @gK α ∧ @mgE α = @mgE α ∧ @gL α = @gL α ∧ @rd α = @rd α ∧ @rdN α = @rdN α ∧ @ixG α = @ixG α ∧ @ixS α = @ixS α ∧ @slS α = @slS α ∧ @slL α = @slL α ∧ @npG α = @npG α ∧ @stG α = @stG α ∧ @gd = @gd
/-- A place with a name: higher than those, lower than all that follows. -/
def nxt (f : St → Out) (st : St) : Out := (fun (_ : Prop) => f st) (tall (Res × Bxs))
def bot (α : Type) : Option α := (fun (_ : Prop) => none) (tall α ∧ nxt = nxt)
@[simp] theorem bot_eq : bot α = none := rfl

def cnd (b : Bool) (o o' : Option α) : Option α := match b with
  | true => (fun (_ : Option α) => o) (bot α)
  | false => o'
def sB (b : Bool) (o : Option α) : Option α := match b with
  | true => o
  | false => bot α
def sO {β : Type} (x : Option β) (K : β → Option α) : Option α := match x with
  | some b => K b
  | none => bot α
def dI (k : IntKind) (m : MV) (K : Int → Option α) : Option α := match m with
  | .int k' n => if k' = k then K n else none
  | _ => bot α
def dB (m : MV) (K : Bool → Option α) : Option α := match m with
  | .bool b => K b
  | _ => bot α
def dS (m : MV) (K : ByteArray → Option α) : Option α := match m with
  | .str b => K b
  | _ => bot α
def dL (m : MV) (K : List (List MV) → Option α) : Option α := match m with
  | .list es => K es
  | .nil => K []
  | _ => bot α
def dA (m : MV) (K : List MV → Option α) : Option α := match m with
  | .agg cs => K cs
  | _ => bot α
def dM (m : MV) (K : List (MKey × MV) → Option α) : Option α := match m with
  | .map es => K es
  | _ => bot α
def dF (m : MV) (K : FuncId → List MV → Option α) : Option α := match m with
  | .fn f cs => K f cs
  | _ => bot α
def unC (l : List MV) (K : MV → List MV → Option α) : Option α := match l with
  | m :: r => K m r
  | [] => bot α
def unN (l : List MV) (o : Option α) : Option α := match l with
  | [] => o
  | _ :: _ => bot α
/-- A cell. -/
def cel (l : List MV) (i : Nat) (K : MV → Option α) : Option α := match l[i]? with
  | some m => K m
  | none => bot α
def wid (sz : Nat) : List (List MV) → Bool
  | [] => true
  | e :: r => match Nat.beq e.length sz with
    | true => wid sz r
    | false => false
/-- Cells laid over those of an element. -/
def ovr (e : List MV) (off : Nat) (ms : List MV) : List MV := e.take off ++ ms ++ e.drop (off + ms.length)

/-- An iterator over a map's keys. -/
def dSq (m : MV) (K : FuncId → List (MKey × MV) → Option α) : Option α := match m with
  | .seq f (.map es) => K f es
  | _ => bot α
def dBs (b : Bs) (m : MV) (K : MV → Option α) : Option α := match b with
  | .int k => dI k m fun n => K (.int k n)
  | .bool => dB m fun b => K (.bool b)
  | .str => dS m fun s => K (.str s)
  | .list => dL m fun es => K (.list es)
  | .map => dM m fun es => K (.map es)
  | .any => K m
  | .sq => dSq m fun f es => K (.seq f (.map es))
  | .ref k => (match m with
    | .ref k' => sB (Nat.beq k' k) (K (.ref k))
    | _ => bot α)
  | .ptr k o => (match m with
    | .ptr k' o' => sB (Nat.beq k' k && Nat.beq o' o) (K (.ptr k o))
    | _ => bot α)
def dCs : List Bs → List MV → (List MV → Option α) → Option α
  | [], cs, K => unN cs (K [])
  | b :: r, cs, K => unC cs fun m cs' => dBs b m fun m' => dCs r cs' fun l => K (m' :: l)
def bsOf : MV → Bs
  | .int k _ => .int k
  | .bool _ => .bool
  | .str _ => .str
  | .nil => .list
  | .list _ => .list
  | .map _ => .map
  | .ref k => .ref k
  | .ptr k o => .ptr k o
  | _ => .any
/-- The part of a type's kind. -/
def dK (ti : TI) (m : MV) (K : MV → Option α) : Option α := match ti.kd with
  | .int k => dI k m fun n => K (.int k n)
  | .bool => dB m fun b => K (.bool b)
  | .str => dS m fun s => K (.str s)
  | .slice _ => dL m fun es => K (.list es)
  | .map _ _ => dM m fun es => K (.map es)
  | .func => dF m fun f cs => K (.fn f cs)
  | _ => K m

/-! ### Operations -/
def kdE (E : Env) (T : TypeId) : TK := match lkN E.ty T with
  | some ti => ti.kd
  | none => .other
def szE (E : Env) (T : TypeId) : Nat := match lkN E.ty T with
  | some ti => ti.size
  | none => 0
def fieldE (E : Env) (T : TypeId) (f : Nat) : Option (Nat × TypeId) := match kdE E T with
  | .strct fs => fs[f]?
  | _ => none

def movF (st : St) (x : Operand) (K : MV → Option α) : Option α := match shv st x with
  | some m => K m
  | none => none

def unF (op : UnOp) (x : MV) (K : MV → Option α) : Option α :=
  match op, x with
  | .not, .bool b => K (.bool (!b))
  | .neg, .int k n => K (.int k (k.wrap (0 - n)))
  | .xor, .int k n => K (.int k (bitI .xor k (if k.signed then -1 else k.max) n))
  | _, _ => none

def convF (E : Env) (s d : TypeId) (x : MV) (K : MV → Option α) : Option α :=
  match kdE E s with
  | .other => none
  | _ => match kdE E d, x with
    | .int k, .int _ n => K (.int k (k.wrap n))
    | .str, .int _ n => K (.str (Utf8.encode n))
    | .str, .str a => K (.str a)
    | _, _ => none

def shlV (k : IntKind) (a b : Int) : Int := k.wrap (a * 2 ^ (min b.toNat k.bits))
def shrV (k : IntKind) (a b : Int) : Int := a.fdiv (2 ^ (min b.toNat k.bits))

def binIntF (op : BinOp) (k : IntKind) (a b : Int) (K : MV → Option α) : Option α :=
  match op with
  | .add => K (.int k (k.wrap (a + b)))
  | .sub => K (.int k (k.wrap (a - b)))
  | .mul => K (.int k (k.wrap (a * b)))
  | .quo => gd (b ≠ 0) (K (.int k (k.wrap (a.tdiv b))))
  | .rem => gd (b ≠ 0) (K (.int k (a.tmod b)))
  | .and => K (.int k (bitI .and k a b))
  | .or => K (.int k (bitI .or k a b))
  | .xor => K (.int k (bitI .xor k a b))
  | .andNot => K (.int k (bitI .andNot k a b))
  | .eql => K (.bool (decide (a = b)))
  | .neq => K (.bool (!decide (a = b)))
  | .lss => K (.bool (decide (a < b)))
  | .leq => K (.bool (decide (a ≤ b)))
  | .gtr => K (.bool (decide (b < a)))
  | .geq => K (.bool (decide (b ≤ a)))
  | .shl => gd (0 ≤ b) (K (.int k (shlV k a b)))
  | .shr => gd (0 ≤ b) (K (.int k (shrV k a b)))

def binStrF (op : BinOp) (a b : ByteArray) (K : MV → Option α) : Option α :=
  match op with
  | .add => stG a b (K (.str (a ++ b)))
  | .eql => K (.bool (decide (a = b)))
  | .neq => K (.bool (!decide (a = b)))
  | .lss => K (.bool (sless a b))
  | .leq => K (.bool (sless a b || decide (a = b)))
  | .gtr => K (.bool (!(sless a b || decide (a = b))))
  | .geq => K (.bool (!(sless a b)))
  | _ => none

def isShift : BinOp → Bool
  | .shl => true
  | .shr => true
  | _ => false

def binF (E : Env) (op : BinOp) (T : TypeId) (x y : MV) (K : MV → Option α) : Option α :=
  match x, y with
  | .int k a, .int k' b => match isShift op with
    | true => binIntF op k a b K
    | false => if k = k' then binIntF op k a b K else none
  | .str a, .str b => binStrF op a b K
  | .bool a, .bool b => (match kdE E T with
    | .bool => (match op with
      | .eql => K (.bool (a == b))
      | .neq => K (.bool (!(a == b)))
      | _ => none)
    | _ => none)
  | .nilptr, .nilptr => (match kdE E T with
    | .ptr _ => (match op with
      | .eql => K (.bool true)
      | .neq => K (.bool false)
      | _ => none)
    | _ => none)
  | .ptr k o, .ptr k' o' => (match Nat.beq k k' && Nat.beq o o' with
    | true => (match kdE E T with
      | .ptr e => (match lkN E.ty e with
        | some _ => (match op with
          | .eql => K (.bool true)
          | .neq => K (.bool false)
          | _ => none)
        | none => none)
      | _ => none)
    | false => none)
  | .ptr _ _, .nilptr => (match kdE E T with
    | .ptr _ => (match op with
      | .eql => K (.bool false)
      | .neq => K (.bool true)
      | _ => none)
    | _ => none)
  | .agg xs, .agg ys => match lkN E.eq T with
    | some ts => sO (eqCells ts xs ys) fun b => match op with
        | .eql => K (.bool b)
        | .neq => K (.bool (!b))
        | _ => none
    | none => none
  | _, _ => none

def isNilI : Operand → Bool
  | .const .nilIface => true
  | _ => false
/-- Is an interface value nil? -/
def ifN (m : MV) (K : Bool → Option α) : Option α := match m with
  | .nilifc => K true
  | .ifc _ _ => K false
  | _ => none

def binEF (E : Env) (st : St) (op : BinOp) (T : TypeId) (x y : Operand) (K : MV → Option α) : Option α :=
  match isNilC y with
  | true => (match nilness st x with
    | some b => (match kdE E T with
      | .slice _ => (match op with
        | .eql => K (.bool b)
        | .neq => K (.bool (!b))
        | _ => none)
      | _ => none)
    | none => (match nilL st x with
      | some es => (match kdE E T with
        | .slice _ => (match op with
          | .eql => nilB es (K (.bool true)) (K (.bool false))
          | .neq => nilB es (K (.bool false)) (K (.bool true))
          | _ => none)
        | _ => none)
      | none => none))
  | false => match isNilI y with
    | true => (match opv st x with
      | some a => (match kdE E T with
        | .iface => (match op with
          | .eql => ifN a fun b => K (.bool b)
          | .neq => ifN a fun b => K (.bool (!b))
          | _ => none)
        | _ => none)
      | none => none)
    | false => match opv st x with
      | some a => match opv st y with
        | some b => binF E op T a b K
        | none => none
      | none => none

def pickF (st : St) (c x y : Operand) (K : MV → Option α) : Option α :=
  match opv st c with
  | some (.bool b) => cnd b (sO (shv st x) fun m => K m) (sO (shv st y) fun m => K m)
  | _ => none

def cutF (ti : TI) (cs : List MV) (off : Nat) (K : MV → Option α) : Option α :=
  match aggKd ti.kd with
  | true => gd (off + ti.size ≤ cs.length) (K (.agg ((cs.drop off).take ti.size)))
  | false => sO cs[off]? K

def extF (st : St) (x : Operand) (i : Nat) (K : MV → Option α) : Option α :=
  match x with
  | .tmp t => match lk st.v t with
    | .tup vs => sO vs[i]? fun m => K m
    | _ => none
  | _ => none

def topIf (tp : Bool) (l : List MV) : List MV := match tp with
  | true => l.map MV.top
  | false => l

/-- A value of a type, with its cells told. -/
def dT (ti : TI) (m : MV) (K : MV → Option α) : Option α := match aggKd ti.kd with
  | true => dA m fun cs => dCs (ti.zero.map bsOf) cs fun l => K (.agg l)
  | false => dK ti m K

/-- A cell that leads nowhere, of an object that may hold others. -/
def dN (ti : TI) (m : MV) (K : MV → Option α) : Option α := match ti.kd with
  | .int k => dI k m fun n => K (.int k n)
  | .bool => dB m fun b => K (.bool b)
  | .str => dS m fun s => K (.str s)
  | .slice _ => (match m with
    | .list es => K (.list es)
    | _ => bot α)
  | _ => bot α

def offs (foc : List (Nat × Nat × Nat)) (off : Nat) : Bool := match foc with
  | [] => true
  | (_, i, _) :: r => match Nat.beq i off with
    | true => false
    | false => offs r off

/-- Decoded cells of an element. -/
def cutE (ti : TI) (cs : List MV) (off : Nat) (K : MV → Option α) : Option α :=
  match aggKd ti.kd with
  | true => gd (off + ti.size ≤ cs.length) (dCs (ti.zero.map bsOf) ((cs.drop off).take ti.size) fun l => K (.agg l))
  | false => cel cs off fun m => dK ti m K

def loadF (E : Env) (st : St) (T : TypeId) (x : Operand) (K : MV → Option α) : Option α :=
  match lkN E.ty T with
  | none => none
  | some ti =>
    match x with
    | .tmp t => match lk st.v t with
      | .cptr cs off => cutE ti cs off K
      | .ptr k off => match st.B[k]? with
        | some (some (.box cs)) => cutF ti cs off K
        | _ => none
      | .eref k sz i off => match st.B[k]? with
        | some (some (.row false sz' es [])) => sB (Nat.beq sz' sz) (rdN es i fun e => cutE ti e off K)
        | some (some (.row true sz' es foc)) => sB (Nat.beq sz' sz) (sB (offs foc off) (rdN es i fun e => cel e off fun m => dN ti m K))
        | _ => none
      | _ => none
    | _ => none

def faF (E : Env) (st : St) (T : TypeId) (x : Operand) (f : Nat) (K : MV → Option α) : Option α :=
  match fieldE E T f with
  | some (o, fT) => (match szE E fT with
    | 0 => none
    | _ + 1 => (match x with
      | .tmp t => match lk st.v t with
        | .cptr cs off => K (.cptr cs (off + o))
        | .ptr k off => K (.ptr k (off + o))
        | .eref k sz i off => K (.eref k sz i (off + o))
        | _ => none
      | _ => none))
  | none => none

def fieldF (E : Env) (st : St) (T : TypeId) (x : Operand) (f : Nat) (K : MV → Option α) : Option α :=
  match fieldE E T f with
  | some (o, fT) => match lkN E.ty fT with
    | some ti => match opv st x with
      | some (.agg cs) => cutF ti cs o K
      | _ => none
    | none => none
  | none => none

def iaF (E : Env) (st : St) (T : TypeId) (x i : Operand) (K : MV → Option α) : Option α :=
  match kdE E T with
  | .slice eT => match opv st i with
    | some (.int _ n) => (match szE E eT with
      | 0 => none
      | s + 1 => (match x with
        | .tmp t => match lk st.v t with
          | .list es => rd es n fun e => gd (e.length = s + 1) (K (.cptr e 0))
          | .ref k => (match st.B[k]? with
            | some (some (.row dp sz es foc)) => (match Nat.beq sz (s + 1) with
              | true => ixG es.length n (K (.eref k sz n.toNat 0))
              | false => none)
            | _ => none)
          | _ => none
        | _ => none))
    | _ => none
  | _ => none

def idxF (E : Env) (st : St) (T : TypeId) (x i : Operand) (K : MV → Option α) : Option α :=
  match kdE E T with
  | .str => match opv st x, opv st i with
    | some (.str s), some (.int _ n) => ixS s n fun c => K (.int .u8 c)
    | _, _ => none
  | _ => none

def sliceF (E : Env) (st : St) (T : TypeId) (x : Operand) (lo hi : Option Operand) (K : MV → Option α) : Option α :=
  match kdE E T with
  | .str => match opv st x with
    | some (.str s) => match bndOf st 0 lo, bndOf st s.size hi with
      | some l, some h => slS s l h fun s' => K (.str s')
      | _, _ => none
    | _ => none
  | .slice eT => (match szE E eT with
    | 0 => none
    | sz + 1 => (match x with
      | .tmp t => match lk st.v t with
        | .list es => match bndOf st 0 lo, bndOf st es.length hi with
          | some l, some h => slL (sz + 1) es l h fun es' => K (.list es')
          | _, _ => none
        | _ => none
      | _ => none))
  | _ => none

def ncF (st : St) (x : Operand) (K : MV → Option α) : Option α :=
  match x with
  | .tmp t => match lk st.v t with
    | .ptr k o => K (.ptr k o)
    | .cptr cs o => K (.cptr cs o)
    | .fn f cs => K (.fn f cs)
    | .eref k sz i o => K (.eref k sz i o)
    | _ => none
  | .func f => K (.fn f [])
  | _ => none

def lookF (E : Env) (st : St) (T : TypeId) (x i : Operand) (ok : Bool) (K : MV → Option α) : Option α :=
  match kdE E T with
  | .map kT eT => match opv st x, opv st i, lkN E.ty eT with
    | some (.map m), some kv, some ti => sO (keyT (kdE E kT) kv) fun k => gK m k (mgE m k (zeroM ti) fun b v => dT ti v fun v' => match ok with
      | true => K (.tup [v', .bool b])
      | false => K v')
    | _, _, _ => none
  | _ => none

def mmF (mx : Bool) : List MV → (MV → Option α) → Option α
  | [.int k a, .int _ b], K => K (.int k (mm2 mx a b))
  | [.int k a, .int _ b, .int _ c], K => K (.int k (mm2 mx (mm2 mx a b) c))
  | _, _ => none

def pureF (E : Env) (st : St) (o : Op) (K : MV → Option α) : Option α :=
  match o with
  | .move x => movF st x K
  | .binOp op T x y _ => binEF E st op T x y K
  | .pick c x y => pickF st c x y K
  | .unOp op _ x => sO (opv st x) fun a => unF op a K
  | .convert s d x => sO (opv st x) fun a => convF E s d a K
  | .extract x i => extF st x i K
  | .load T x => loadF E st T x K
  | .fieldAddr T x f => faF E st T x f K
  | .field T x f => fieldF E st T x f K
  | .indexAddr T x i => iaF E st T x i K
  | .index T x i => idxF E st T x i K
  | .slice T x lo hi none => sliceF E st T x lo hi K
  | .lookup T x i ok => lookF E st T x i ok K
  | .nilCheck x => ncF st x K
  | .makeFunc (.func f) fs cs => (match fs.size with
    | 0 => sO (shvs st cs.toList) fun ms => K (.fn f ms)
    | _ + 1 => none)
  | .call c => match c.callee with
    | .builtin .len => match c.args.toList, c.argTypes.toList with
      | [x], [T] => sO (shv st x) fun m => sO (lenC st (kdE E T) m) K
      | _, _ => none
    | .builtin .min => sO (opvs st c.args.toList) fun ms => mmF false ms K
    | .builtin .max => sO (opvs st c.args.toList) fun ms => mmF true ms K
    | _ => none
  | _ => none


end
end Go.Pv
end
