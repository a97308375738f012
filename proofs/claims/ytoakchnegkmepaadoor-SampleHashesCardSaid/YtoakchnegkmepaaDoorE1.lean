/- The library of this work, part E1: the code as functions of pure values. -/
import Derived.Test.YtoakchnegkmepaaDoorLD
set_option linter.unusedVariables false
set_option linter.unusedSimpArgs false
namespace Go.Pv

abbrev Bxs := List (Option (List Ct))
abbrev Out := Option (Res × Bxs)

inductive Bs where
  | int (k : IntKind) | bool | str | list | map | any

inductive Sh where
  | c (b : Bs) | agg (l : List Bs)

/-- A plan for a region whose order is open. -/
inductive Sd where
  | fin
  | reg (i : Nat) (r : Sd)
  | take (i : Nat) (r : Sd)
  | one (j : Nat) (S R : List Nat) (r : Sd)
  | two (j : Nat) (S R : List Nat) (r : Sd) (more : Sd)

def altsD : Sd → List Nat
  | .two j _ _ _ m => j :: altsD m
  | .one j _ _ _ => [j]
  | _ => []

/-- A plan beside the code. -/
inductive Pl where
  | leaf
  | draw (s : Sd)
  | seq (a : Pl) (k : List Nat) (b : Pl)
  | cond (k : List Nat) (a b : Pl)
  | one (a : Pl)
  | loop (k : List Nat) (a : Pl)
  | frz (t : Nat) (a : Pl)
  | shr (ts : List Nat) (a : Pl)
  | cut (a : Pl)

structure FnP where
  pl : Pl
  fz : List Nat
  sg : List (Option Nat × Sh)

structure Env where
  fu : Nat
  ty : List (Nat × TI)
  eq : List (Nat × List TK)
  fn : List (Nat × FnP)

def lkN {β : Type} : List (Nat × β) → Nat → Option β
  | [], _ => none
  | (k, x) :: r, i => match Nat.beq k i with
    | true => some x
    | false => lkN r i

section
variable {α : Type}

/-! ### Tests, and parts of values -/
/- The kernel unfolds what stands higher first: the words of the first kind (which ask about numbers) stand lowest, so that none of them is unfolded while two texts are compared. -/
def gd (p : Prop) [Decidable p] (o : Option α) : Option α := if p then o else none
def gL (n : Nat) (o : Option α) : Option α := if n ≤ 1000000000 then o else none
/-- An element of a row. -/
def rd (es : List (List MV)) (i : Int) (K : List MV → Option α) : Option α := if 0 ≤ i then (match es[i.toNat]? with
  | some e => K e
  | none => none) else none
def rdN (es : List (List MV)) (i : Nat) (K : List MV → Option α) : Option α := match es[i]? with
  | some e => K e
  | none => none
def ixG (n : Nat) (i : Int) (o : Option α) : Option α := if 0 ≤ i ∧ i.toNat < n then o else none
def ixS (s : ByteArray) (i : Int) (K : Int → Option α) : Option α := if 0 ≤ i ∧ i.toNat < s.size then K (bAt s i.toNat) else none
def slS (s : ByteArray) (l h : Int) (K : ByteArray → Option α) : Option α := if 0 ≤ l ∧ l ≤ h ∧ h ≤ (s.size : Int) then K (s.extract l.toNat h.toNat) else none
def widAt (sz : Nat) (es : List (List MV)) (i : Nat) : Bool := match es[i]? with
  | some e => Nat.beq e.length sz
  | none => true
def slL (sz : Nat) (es : List (List MV)) (l h : Int) (K : List (List MV) → Option α) : Option α :=
  if (0 ≤ l ∧ l ≤ h ∧ h ≤ (es.length : Int)) ∧ widAt sz es l.toNat = true then K ((es.drop l.toNat).take (h.toNat - l.toNat)) else none
def npG (l : List MV) (o : Option α) : Option α := match npL l with
  | true => o
  | false => none
def stG (a b : ByteArray) (o : Option α) : Option α := if a.size + b.size ≤ 9223372036854775807 then o else none

/-- Higher than those. -/
def tall (α : Type) : Prop := @gL α = @gL α ∧ @rd α = @rd α ∧ @rdN α = @rdN α ∧ @ixG α = @ixG α ∧ @ixS α = @ixS α ∧ @slS α = @slS α ∧ @slL α = @slL α ∧ @npG α = @npG α ∧ @stG α = @stG α ∧ @gd = @gd
/-- A place with a name: higher than those, lower than all that follows. -/
def nxt (f : St → Out) (st : St) : Out := (fun (_ : Prop) => f st) (tall (Res × Bxs))
def bot (α : Type) : Option α := (fun (_ : Prop) => none) (tall α ∧ nxt = nxt)
@[simp] theorem bot_eq : bot α = none := rfl

def cnd (b : Bool) (o o' : Option α) : Option α := match b with
  | true => (fun (_ : Option α) => o) (bot α)
  | false => o'
def sB (b : Bool) (o : Option α) : Option α := match b with
  | true => o
  | false => bot α
def sO {β : Type} (x : Option β) (K : β → Option α) : Option α := match x with
  | some b => K b
  | none => bot α
def dI (k : IntKind) (m : MV) (K : Int → Option α) : Option α := match m with
  | .int k' n => if k' = k then K n else none
  | _ => bot α
def dB (m : MV) (K : Bool → Option α) : Option α := match m with
  | .bool b => K b
  | _ => bot α
def dS (m : MV) (K : ByteArray → Option α) : Option α := match m with
  | .str b => K b
  | _ => bot α
def dL (m : MV) (K : List (List MV) → Option α) : Option α := match m with
  | .list es => K es
  | _ => bot α
def dA (m : MV) (K : List MV → Option α) : Option α := match m with
  | .agg cs => K cs
  | _ => bot α
def dM (m : MV) (K : List (MKey × MV) → Option α) : Option α := match m with
  | .map es => K es
  | _ => bot α
def unC (l : List MV) (K : MV → List MV → Option α) : Option α := match l with
  | m :: r => K m r
  | [] => bot α
def unN (l : List MV) (o : Option α) : Option α := match l with
  | [] => o
  | _ :: _ => bot α
/-- A cell. -/
def cel (l : List MV) (i : Nat) (K : MV → Option α) : Option α := match l[i]? with
  | some m => K m
  | none => bot α
def wid (sz : Nat) : List (List MV) → Bool
  | [] => true
  | e :: r => match Nat.beq e.length sz with
    | true => wid sz r
    | false => false
/-- Cells laid over those of an element. -/
def ovr (e : List MV) (off : Nat) (ms : List MV) : List MV := e.take off ++ ms ++ e.drop (off + ms.length)

def dBs (b : Bs) (m : MV) (K : MV → Option α) : Option α := match b with
  | .int k => dI k m fun n => K (.int k n)
  | .bool => dB m fun b => K (.bool b)
  | .str => dS m fun s => K (.str s)
  | .list => dL m fun es => K (.list es)
  | .map => dM m fun es => K (.map es)
  | .any => K m
def dCs : List Bs → List MV → (List MV → Option α) → Option α
  | [], cs, K => unN cs (K [])
  | b :: r, cs, K => unC cs fun m cs' => dBs b m fun m' => dCs r cs' fun l => K (m' :: l)
def dSh (s : Sh) (m : MV) (K : MV → Option α) : Option α := match s with
  | .c b => dBs b m K
  | .agg l => dA m fun cs => dCs l cs fun cs' => K (.agg cs')
def bsOf : MV → Bs
  | .int k _ => .int k
  | .bool _ => .bool
  | .str _ => .str
  | .nil => .list
  | .list _ => .list
  | .map _ => .map
  | _ => .any
/-- The part of a type's kind. -/
def dK (ti : TI) (m : MV) (K : MV → Option α) : Option α := match ti.kd with
  | .int k => dI k m fun n => K (.int k n)
  | .bool => dB m fun b => K (.bool b)
  | .str => dS m fun s => K (.str s)
  | .slice _ => dL m fun es => K (.list es)
  | .map _ _ => dM m fun es => K (.map es)
  | _ => K m

/-! ### Results of calls -/
def callE (o : Out) (K : Res → Bxs → Option α) : Option α := match o with
  | some (r, B) => K r B
  | none => bot α
def rC (ow : Option Nat) (r : Res) (K : MV → Res → Option α) : Option α := match r with
  | (o, m) :: q => if o = ow then K m q else none
  | [] => bot α
def rN (r : Res) (o : Option α) : Option α := match r with
  | [] => o
  | _ :: _ => bot α
def unR : List (Option Nat × Sh) → Res → (Res → Option α) → Option α
  | [], r, K => rN r (K [])
  | (ow, s) :: q, r, K => rC ow r fun m r' => dSh s m fun m' => unR q r' fun l => K ((ow, m') :: l)
def bX (B : Bxs) (K : List Ct → Option α) : Option α := match B with
  | some cs :: _ => K cs
  | _ => bot α
def bC (cs : List Ct) (K : MV → List Ct → Option α) : Option α := match cs with
  | .sh m :: r => K m r
  | _ => bot α
def bN (cs : List Ct) (o : Option α) : Option α := match cs with
  | [] => o
  | _ :: _ => bot α
def unB : List Bs → List Ct → (List MV → Option α) → Option α
  | [], cs, K => bN cs (K [])
  | b :: q, cs, K => bC cs fun m cs' => dBs b m fun m' => unB q cs' fun l => K (m' :: l)

/-! ### Operations -/
def kdE (E : Env) (T : TypeId) : TK := match lkN E.ty T with
  | some ti => ti.kd
  | none => .other
def szE (E : Env) (T : TypeId) : Nat := match lkN E.ty T with
  | some ti => ti.size
  | none => 0
def fieldE (E : Env) (T : TypeId) (f : Nat) : Option (Nat × TypeId) := match kdE E T with
  | .strct fs => fs[f]?
  | _ => none

def movF (st : St) (x : Operand) (K : Ct → Option α) : Option α :=
  match x with
  | .tmp t => match lk st.v t with
    | .sh m => K (.sh m)
    | .own _ _ => K (.al (.slot t))
    | .al p => K (.al p)
    | .eadr p i o => K (.eadr p i o)
    | .tupc cs => sB (cs.all fun c => c.1.isNone) (K (.tupc cs))
    | _ => none
  | .const v => match mvConst v with
    | some m => K (.sh m)
    | none => none
  | .func f => K (.sh (.fn f []))
  | .global _ => none

def unF (op : UnOp) (x : MV) (K : MV → Option α) : Option α :=
  match op, x with
  | .not, .bool b => K (.bool (!b))
  | .neg, .int k n => K (.int k (k.wrap (0 - n)))
  | .xor, .int k n => K (.int k (bitI .xor k (if k.signed then -1 else k.max) n))
  | _, _ => none

def convF (E : Env) (s d : TypeId) (x : MV) (K : MV → Option α) : Option α :=
  match kdE E s with
  | .other => none
  | _ => match kdE E d, x with
    | .int k, .int _ n => K (.int k (k.wrap n))
    | .str, .int _ n => K (.str (Utf8.encode n))
    | .str, .str a => K (.str a)
    | _, _ => none

def shlV (k : IntKind) (a b : Int) : Int := k.wrap (a * 2 ^ (min b.toNat k.bits))
def shrV (k : IntKind) (a b : Int) : Int := a.fdiv (2 ^ (min b.toNat k.bits))

def binIntF (op : BinOp) (k : IntKind) (a b : Int) (K : MV → Option α) : Option α :=
  match op with
  | .add => K (.int k (k.wrap (a + b)))
  | .sub => K (.int k (k.wrap (a - b)))
  | .mul => K (.int k (k.wrap (a * b)))
  | .quo => gd (b ≠ 0) (K (.int k (k.wrap (a.tdiv b))))
  | .rem => gd (b ≠ 0) (K (.int k (a.tmod b)))
  | .and => K (.int k (bitI .and k a b))
  | .or => K (.int k (bitI .or k a b))
  | .xor => K (.int k (bitI .xor k a b))
  | .andNot => K (.int k (bitI .andNot k a b))
  | .eql => K (.bool (decide (a = b)))
  | .neq => K (.bool (!decide (a = b)))
  | .lss => K (.bool (decide (a < b)))
  | .leq => K (.bool (decide (a ≤ b)))
  | .gtr => K (.bool (decide (b < a)))
  | .geq => K (.bool (decide (b ≤ a)))
  | .shl => gd (0 ≤ b) (K (.int k (shlV k a b)))
  | .shr => gd (0 ≤ b) (K (.int k (shrV k a b)))

def binStrF (op : BinOp) (a b : ByteArray) (K : MV → Option α) : Option α :=
  match op with
  | .add => stG a b (K (.str (a ++ b)))
  | .eql => K (.bool (decide (a = b)))
  | .neq => K (.bool (!decide (a = b)))
  | .lss => K (.bool (sless a b))
  | .leq => K (.bool (sless a b || decide (a = b)))
  | .gtr => K (.bool (!(sless a b || decide (a = b))))
  | .geq => K (.bool (!(sless a b)))
  | _ => none

def isShift : BinOp → Bool
  | .shl => true
  | .shr => true
  | _ => false

def binF (E : Env) (op : BinOp) (T : TypeId) (x y : MV) (K : MV → Option α) : Option α :=
  match x, y with
  | .int k a, .int k' b => match isShift op with
    | true => binIntF op k a b K
    | false => if k = k' then binIntF op k a b K else none
  | .str a, .str b => binStrF op a b K
  | .bool a, .bool b => (match kdE E T with
    | .bool => (match op with
      | .eql => K (.bool (a == b))
      | .neq => K (.bool (!(a == b)))
      | _ => none)
    | _ => none)
  | .agg xs, .agg ys => match lkN E.eq T with
    | some ts => sO (eqCells ts xs ys) fun b => match op with
        | .eql => K (.bool b)
        | .neq => K (.bool (!b))
        | _ => none
    | none => none
  | _, _ => none

def binEF (E : Env) (st : St) (op : BinOp) (T : TypeId) (x y : Operand) (K : Ct → Option α) : Option α :=
  match isNilC y with
  | true => (match nilness st x with
    | some b => (match kdE E T with
      | .slice _ => (match op with
        | .eql => K (.sh (.bool b))
        | .neq => K (.sh (.bool (!b)))
        | _ => none)
      | _ => none)
    | none => none)
  | false => match opv st x with
    | some a => match opv st y with
      | some b => binF E op T a b (fun m => K (.sh m))
      | none => none
    | none => none

def pickF (st : St) (c x y : Operand) (K : Ct → Option α) : Option α :=
  match opv st c with
  | some (.bool b) => cnd b (sO (shv st x) fun m => K (.sh m)) (sO (shv st y) fun m => K (.sh m))
  | _ => none

def cutF (ti : TI) (cs : List MV) (off : Nat) (K : MV → Option α) : Option α :=
  match aggKd ti.kd with
  | true => gd (off + ti.size ≤ cs.length) (K (.agg ((cs.drop off).take ti.size)))
  | false => cel cs off fun m => dK ti m K

def extF (st : St) (x : Operand) (i : Nat) (K : Ct → Option α) : Option α :=
  match x with
  | .tmp t => match lk st.v t with
    | .tupc cs => match cs[i]? with
      | some (none, m) => K (.sh m)
      | _ => none
    | _ => none
  | _ => none

def topIf (tp : Bool) (l : List MV) : List MV := match tp with
  | true => l.map MV.top
  | false => l

def loadF (E : Env) (st : St) (T : TypeId) (x : Operand) (K : Ct → Option α) : Option α :=
  match lkN E.ty T with
  | none => none
  | some ti =>
    match x with
    | .tmp t => match lk st.v t with
      | .sh (.cptr cs off) => cutF ti cs off (fun m => K (.sh m))
      | .sh (.ptr k off) => match st.B[k]? with
        | some (some cs) =>
          (match aggKd ti.kd with
          | true => (match shs ((cs.drop off).take ti.size) with
            | some ms => gd (off + ti.size ≤ cs.length) (K (.sh (.agg ms)))
            | none => none)
          | false => (match cs[off]? with
            | some (.sh m) => K (.sh m)
            | some (.own _ _) => K (.al (.cell k off))
            | _ => none))
        | _ => none
      | .eadr p i off => match st.at p with
        | .own sz (.list es) => rdN es i fun e => cutF ti e off (fun m => K (.sh m))
        | _ => none
      | _ => none
    | _ => none

def faF (E : Env) (st : St) (T : TypeId) (x : Operand) (f : Nat) (K : Ct → Option α) : Option α :=
  match fieldE E T f with
  | some (o, fT) => (match szE E fT with
    | 0 => none
    | _ + 1 => (match x with
      | .tmp t => match lk st.v t with
        | .sh (.cptr cs off) => K (.sh (.cptr cs (off + o)))
        | .sh (.ptr k off) => K (.sh (.ptr k (off + o)))
        | .eadr p i off => K (.eadr p i (off + o))
        | _ => none
      | _ => none))
  | none => none

def fieldF (E : Env) (st : St) (T : TypeId) (x : Operand) (f : Nat) (K : MV → Option α) : Option α :=
  match fieldE E T f with
  | some (o, fT) => match lkN E.ty fT with
    | some ti => match opv st x with
      | some (.agg cs) => cutF ti cs o K
      | _ => none
    | none => none
  | none => none

def iaF (E : Env) (st : St) (T : TypeId) (x i : Operand) (K : Ct → Option α) : Option α :=
  match kdE E T with
  | .slice eT => match opv st i with
    | some (.int _ n) => (match szE E eT with
      | 0 => none
      | s + 1 => (match x with
        | .tmp t => match lk st.v t with
          | .sh (.list es) => rd es n fun e => gd (e.length = s + 1) (K (.sh (.cptr e 0)))
          | .al p => match st.at p with
            | .own sz (.list es) => (match Nat.beq sz (s + 1) with
              | true => ixG es.length n (K (.eadr p n.toNat 0))
              | false => none)
            | _ => none
          | .own sz (.list es) => (match Nat.beq sz (s + 1) with
              | true => ixG es.length n (K (.eadr (.slot t) n.toNat 0))
              | false => none)
          | _ => none
        | _ => none))
    | _ => none
  | _ => none

def idxF (E : Env) (st : St) (T : TypeId) (x i : Operand) (K : MV → Option α) : Option α :=
  match kdE E T with
  | .str => match opv st x, opv st i with
    | some (.str s), some (.int _ n) => ixS s n fun c => K (.int .u8 c)
    | _, _ => none
  | _ => none

def sliceF (E : Env) (st : St) (T : TypeId) (x : Operand) (lo hi : Option Operand) (K : MV → Option α) : Option α :=
  match kdE E T with
  | .str => match opv st x with
    | some (.str s) => match bndOf st 0 lo, bndOf st s.size hi with
      | some l, some h => slS s l h fun s' => K (.str s')
      | _, _ => none
    | _ => none
  | .slice eT => (match szE E eT with
    | 0 => none
    | sz + 1 => (match x with
      | .tmp t => match lk st.v t with
        | .sh (.list es) => match bndOf st 0 lo, bndOf st es.length hi with
          | some l, some h => slL (sz + 1) es l h fun es' => K (.list es')
          | _, _ => none
        | _ => none
      | _ => none))
  | _ => none

def ncF (st : St) (x : Operand) (K : Ct → Option α) : Option α :=
  match x with
  | .tmp t => match lk st.v t with
    | .sh (.ptr k o) => K (.sh (.ptr k o))
    | .sh (.cptr cs o) => K (.sh (.cptr cs o))
    | .sh (.fn f cs) => K (.sh (.fn f cs))
    | .eadr p i o => K (.eadr p i o)
    | _ => none
  | .func f => K (.sh (.fn f []))
  | _ => none

def lenF (E : Env) (T : TypeId) (x : MV) (K : MV → Option α) : Option α :=
  match kdE E T, x with
  | .str, .str s => K (.int .i64 s.size)
  | .slice _, .list es => K (.int .i64 es.length)
  | .map _ _, .map m => K (.int .i64 m.length)
  | _, _ => none

def mmF (mx : Bool) : List MV → (MV → Option α) → Option α
  | [.int k a, .int _ b], K => K (.int k (mm2 mx a b))
  | [.int k a, .int _ b, .int _ c], K => K (.int k (mm2 mx (mm2 mx a b) c))
  | _, _ => none

def pureF (E : Env) (st : St) (o : Op) (K : Ct → Option α) : Option α :=
  match o with
  | .move x => movF st x K
  | .binOp op T x y _ => binEF E st op T x y K
  | .pick c x y => pickF st c x y K
  | .unOp op _ x => sO (opv st x) fun a => unF op a (fun m => K (.sh m))
  | .convert s d x => sO (opv st x) fun a => convF E s d a (fun m => K (.sh m))
  | .extract x i => extF st x i K
  | .load T x => loadF E st T x K
  | .fieldAddr T x f => faF E st T x f K
  | .field T x f => fieldF E st T x f (fun m => K (.sh m))
  | .indexAddr T x i => iaF E st T x i K
  | .index T x i => idxF E st T x i (fun m => K (.sh m))
  | .slice T x lo hi none => sliceF E st T x lo hi (fun m => K (.sh m))
  | .nilCheck x => ncF st x K
  | .makeFunc (.func f) fs cs => (match fs.size with
    | 0 => sO (shvs st cs.toList) fun ms => K (.sh (.fn f ms))
    | _ + 1 => none)
  | .call c => match c.callee with
    | .builtin .len => match c.args.toList, c.argTypes.toList with
      | [x], [T] => sO (opv st x) fun m => lenF E T m (fun m => K (.sh m))
      | _, _ => none
    | .builtin .min => sO (opvs st c.args.toList) fun ms => mmF false ms (fun m => K (.sh m))
    | .builtin .max => sO (opvs st c.args.toList) fun ms => mmF true ms (fun m => K (.sh m))
    | _ => none
  | _ => none

def asgF (E : Env) (st : St) (ty : TypeId) (d : Nat) (x : Operand) (K : St → Option α) : Option α :=
  match x with
  | .tmp t => match lk st.v t with
    | .sh m => K (st.put d (.sh m))
    | .own sz m => match Nat.beq t d with
      | true => K st
      | false => K ((st.spend (.slot t)).put d (.own sz m))
    | .al p => match p == .slot d with
      | true => K st
      | false => (match (st.retire p).at p with
        | .sh m => K ((st.retire p).put d (.sh m))
        | _ => none)
    | .eadr p i o => K (st.put d (.eadr p i o))
    | _ => none
  | .const v =>
    (match isNilC (.const v) with
    | true => (match kdE E ty with
      | .slice e => (match szE E e with
        | 0 => none
        | s + 1 => K (st.put d (.own (s + 1) (.list []))))
      | _ => none)
    | false => (match mvConst v with
      | some m => K (st.put d (.sh m))
      | none => none))
  | .func f => K (st.put d (.sh (.fn f [])))
  | .global _ => none

def appF (E : Env) (st : St) (d : Nat) (c : Call) (K : St → Option α) : Option α :=
  match c.args.toList, c.argTypes.toList with
  | [s, x], [T, T'] => match kdE E T, kdE E T' with
    | .slice e, .slice _ => match lkN E.ty e with
      | some ti => sB (Nat.ble ti.bytes 100000) (match ti.size with
        | 0 => none
        | sz0 + 1 => (match ownPl st s with
          | some p => match st.at p with
            | .own sz (.list es) => match Nat.beq sz (sz0 + 1) with
              | true => (match opv st x with
                | some (.list ys) => sB (wid (sz0 + 1) ys) (gL (es.length + ys.length) (K ((st.spend p).put d (.own sz (.list (es ++ ys))))))
                | _ => none)
              | false => none
            | _ => none
          | none => (match shNil st s, opv st x with
            | true, some (.list ys) => sB (wid (sz0 + 1) ys) (gL ys.length (K (st.put d (.own (sz0 + 1) (.list ys)))))
            | _, _ => none)))
      | none => none
    | _, _ => none
  | _, _ => none

def eqOp : Operand → Operand → Bool
  | .tmp a, .tmp b => Nat.beq a b
  | _, _ => false

def mkF (E : Env) (tp : Bool) (st : St) (d : Nat) (T : TypeId) (l c : Operand) (K : St → Option α) : Option α :=
  match kdE E T with
  | .slice e => match lkN E.ty e with
    | some ti => sB (Nat.ble ti.bytes 100000) (match ti.size with
      | 0 => none
      | _ + 1 => (match opv st l with
        | some (.int k n) => (match eqOp l c with
          | true => gd (0 ≤ n ∧ n ≤ 1000000000) (K (st.put d (.own ti.size (.list (List.replicate n.toNat (topIf tp ti.zero))))))
          | false => (match opv st c with
            | some (.int k' n') => gd (n = n' ∧ 0 ≤ n ∧ n ≤ 1000000000) (K (st.put d (.own ti.size (.list (List.replicate n.toNat (topIf tp ti.zero))))))
            | _ => none))
        | _ => none))
    | none => none
  | _ => none

def noTup : MV → Bool
  | .tup _ => false
  | _ => true

def bsF (E : Env) (st : St) (d : Nat) (T : TypeId) (len : Nat) (parts : List (Nat × Operand)) (K : St → Option α) : Option α :=
  match kdE E T with
  | .slice e => match szE E e with
    | 0 => none
    | sz + 1 => sO (shvs (retOs st (parts.map (·.2))) (parts.map (·.2))) fun ms =>
      sO (litE 0 ((parts.map (·.1)).zip ms)) fun es => sB (Nat.beq es.length len) (sB (Nat.ble (len * (sz + 1)) 16777216) (sB (ms.all noTup) (sB (wid (sz + 1) es)
        (K ((retOs st (parts.map (·.2))).put d (.own (sz + 1) (.list es)))))))
  | _ => none

def fillF (E : Env) (T : TypeId) : List (Nat × MV) → List MV → Option (List MV)
  | [], cs => some cs
  | (i, m) :: r, cs => match fieldE E T i with
    | some (o, fT) => (match szE E fT with
      | 0 => none
      | s + 1 => (match Nat.beq (cellsM m).length (s + 1) with
        | true => (match Nat.ble (o + (cellsM m).length) cs.length with
          | true => fillF E T r (cs.take o ++ cellsM m ++ cs.drop (o + (cellsM m).length))
          | false => none)
        | false => none))
    | none => none

def tysE (E : Env) (T : TypeId) : Bool :=
  match kdE E T with
  | .strct fs => fs.all fun f => (lkN E.ty f.2).isSome
  | _ => false

/-- The parts of a struct, cell by cell. -/
def expF (zs : List MV) (m : MV) (K : MV → Option α) : Option α :=
  match m with
  | .agg cs => dCs (zs.map bsOf) cs fun cs' => K (.agg cs')
  | m => K m

def expsF (E : Env) (T : TypeId) : List (Nat × MV) → (List MV → Option α) → Option α
  | [], K => K []
  | (i, m) :: r, K => match fieldE E T i with
    | some (o, fT) => match lkN E.ty fT with
      | some ti => expF ti.zero m fun m' => expsF E T r fun l => K (m' :: l)
      | none => none
    | none => none

def bldF (E : Env) (tp : Bool) (st : St) (dst : Option Tmp) (T : TypeId) (parts : List (Nat × Operand)) (K : St → Option α) : Option α :=
  match lkN E.ty T with
  | some ti => sO (shvs (retOs st (parts.map (·.2))) (parts.map (·.2))) fun ms0 =>
      expsF E T ((parts.map (·.1)).zip ms0) fun ms =>
      sO (fillF E T ((parts.map (·.1)).zip ms) ti.zero) fun cs => sB (ms.all noTup) (sB (ms.all fun m => !(cellsM m).isEmpty) (sB (tysE E T)
        (K (putO (retOs st (parts.map (·.2))) dst (.sh (.agg (topIf tp cs)))))))
  | none => none

def boxF (E : Env) (fz : Bool) (st : St) (dst : Option Tmp) (T : TypeId) (x : Operand) (K : St → Option α) : Option α :=
  sO (shv (retO st x) x) fun m => match fz with
    | true => sB (noTup m) (K (putO (retO st x) dst (.sh (.cptr (cellsM m) 0))))
    | false => sO (lkN E.ty T) fun ti => expF ti.zero m fun m' => sB (noTup m') (K (putO { (retO st x) with B := (retO st x).B ++ [some ((cellsM m').map .sh)] } dst (.sh (.ptr (retO st x).B.length 0))))

def aloF (E : Env) (tp : Bool) (fz : Bool) (st : St) (dst : Option Tmp) (T : TypeId) (K : St → Option α) : Option α :=
  match lkN E.ty T with
  | some ti => (match fz with
    | true => K (putO st dst (.sh (.cptr (topIf tp ti.zero) 0)))
    | false => K (putO { st with B := st.B ++ [some (ti.zero.map .sh)] } dst (.sh (.ptr st.B.length 0))))
  | none => none

def stoEF (E : Env) (st : St) (T : TypeId) (p : Place) (i off : Nat) (x : Operand) (K : St → Option α) : Option α :=
  match (retO st x).at p with
  | .own sz (.list es) => sO (shv (retO st x) x) fun m => rdN es i fun e => sB (noTup m) (match szE E T with
    | 0 => none
    | sT + 1 => gd ((cellsM m).length = sT + 1) (sB (Nat.ble (off + (sT + 1)) sz)
        (K ((retO st x).upd p (.own sz (.list (es.set i (ovr e off (cellsM m)))))))))
  | _ => none

def stoBF (E : Env) (st : St) (T : TypeId) (k off : Nat) (x : Operand) (K : St → Option α) : Option α :=
  match (retO st x).B[k]? with
  | some (some cs) => sO (shv (retO st x) x) fun m0 => sO (lkN E.ty T) fun ti => expF ti.zero m0 fun m => sB (noTup m) (match szE E T with
      | 0 => none
      | sT + 1 => sB (Nat.beq (cellsM m).length (sT + 1)) (sB (Nat.ble (off + (sT + 1)) cs.length) (sB (noOwn ((cs.drop off).take (cellsM m).length))
        (K { (retO st x) with B := (retO st x).B.set k (some (setR cs ((cellsM m).map .sh) off)) }))))
  | _ => none

def stoF (E : Env) (st : St) (T : TypeId) (ad x : Operand) (K : St → Option α) : Option α :=
  match ad with
  | .tmp t => match lk st.v t with
    | .eadr p i off => stoEF E st T p i off x K
    | .sh (.ptr _ _) => (match shv (retO st x) (.tmp t) with
      | some (.ptr k off) => stoBF E st T k off x K
      | _ => none)
    | _ => none
  | _ => none

/-! ### Calls -/
def flatS : Sh → Bool
  | .c (.int _) => true
  | .c .bool => true
  | .c .str => true
  | .agg l => l.all fun b => match b with
    | .int _ => true
    | .bool => true
    | .str => true
    | _ => false
  | _ => false

def shsM : List Ct → Option (List MV)
  | [] => some []
  | .sh m :: r => match shsM r with
    | some l => some (m :: l)
    | none => none
  | _ :: _ => none

/-- A call of a function that may turn the box of its first argument. -/
def frmF (E : Env) (cl : FuncId → List MV → Bxs → Out) (st : St) (dst : Option Tmp) (g : FuncId) (sg : List (Option Nat × Sh)) (k off : Nat) (ms : List MV) (K : St → Option α) : Option α :=
  match st.B[k]? with
  | some (some cs) => sO (shsM cs) fun cm => npG (ms ++ cm) (callE (cl g (.ptr 0 off :: ms) [some cs]) fun r B' => unR sg r fun r' => sB (sg.all fun x => x.1.isNone) (bX B' fun cs' => unB (cm.map bsOf) cs' fun cm' =>
      K (putO ⟨killB st.v, st.B.set k (some (cm'.map .sh))⟩ dst (resC r'))))
  | _ => none

/-- What a call hands back: of a known function by the table, else by its type. -/
def sgT (E : Env) (ty : TypeId) : List (Option Nat × Sh) := match kdE E ty with
  | .int k => [(none, .c (.int k))]
  | .bool => [(none, .c .bool)]
  | .str => [(none, .c .str)]
  | .slice _ => [(none, .c .list)]
  | .map _ _ => [(none, .c .map)]
  | _ => []
def sgOf (E : Env) (f : Operand) (ty : TypeId) : Option (List (Option Nat × Sh)) := match f with
  | .func g => match lkN E.fn g with
    | some fp => some fp.sg
    | none => none
  | _ => some (sgT E ty)

def callF (E : Env) (cl : FuncId → List MV → Bxs → Out) (st : St) (dst : Option Tmp) (ty : TypeId) (f : Operand) (xs : List Operand) (K : St → Option α) : Option α :=
  match fnOf st f with
  | none => none
  | some (g, cs) => match sgOf E f ty with
    | none => none
    | some sg => match shvs (retOs st xs) xs with
      | none => none
      | some (.ptr k off :: ms) => frmF E cl (retOs st xs) dst g sg k off (ms.map MV.top ++ cs) K
      | some ms => match opvs st xs with
      | none => none
      | some ms' => match sg.all (fun x => x.1.isNone && flatS x.2) with
        | true => npG (ms' ++ cs) (callE (cl g (ms' ++ cs) []) fun r _ => unR sg r fun r' => K (putO st dst (resC r')))
        | false => npG (ms.map MV.top ++ cs) (callE (cl g (ms.map MV.top ++ cs) []) fun r _ => unR sg r fun r' => K (putO (retOs st xs) dst (resC r')))

def dstF (d : Option Tmp) (nt : Nat) (o : Option α) : Option α := match d with
  | some t => sB (Nat.blt t nt) o
  | none => o

def opF (E : Env) (cl : FuncId → List MV → Bxs → Out) (tp : Bool) (nt : Nat) (fz : List Nat) (o : Oper) (st : St) (K : St → Option α) : Option α :=
  dstF o.dst nt (match o.op with
    | .assign x => match o.dst with
      | some d => asgF E st o.type d x K
      | none => none
    | .call c => match c.callee with
      | .value f => callF E cl st o.dst o.type f c.args.toList K
      | .builtin .append => match o.dst with
        | some d => appF E st d c K
        | none => none
      | _ => pureF E st (.call c) (fun ct => K (putO st o.dst ct))
    | .makeSlice T l c => match o.dst with
      | some d => mkF E tp st d T l c K
      | none => none
    | .buildSlice T len parts => match o.dst with
      | some d => bsF E st d T len parts.toList K
      | none => none
    | .build T parts => bldF E tp st o.dst T parts.toList K
    | .box T x => boxF E (match o.dst with | some d => memN fz d | none => false) st o.dst T x K
    | .alloc T => aloF E tp (match o.dst with | some d => memN fz d | none => false) st o.dst T K
    | .store T ad x => (match o.dst with
      | none => stoF E st T ad x K
      | some _ => none)
    | .convert s T x => (match o.dst, opv st x, kdE E T with
      | some d, some (.str b), .slice e => (match kdE E e, kdE E s with
        | .int .u8, .str => K (st.put d (.sh (.list (byteRow b))))
        | _, _ => none)
      | _, _, .other => none
      | _, _, _ => pureF E st (.convert s T x) (fun ct => K (putO st o.dst ct)))
    | op => pureF E st op (fun ct => K (putO st o.dst ct)))

end
end Go.Pv
