/- The library of this work, part E3: regions, statements and functions as functions of pure values. -/
import Derived.Test.YtoakchnegkmepaaDoorE2
set_option linter.unusedVariables false
set_option linter.unusedSimpArgs false
namespace Go.Pv

def isInt : MV → Bool
  | .int _ _ => true
  | _ => false
def isSca : MV → Bool
  | .int _ _ => true
  | .bool _ => true
  | .str _ => true
  | _ => false

/-- May it be run early whatever else is done? -/
def regK (E : Env) (st : St) (op : Op) : Bool :=
  match op with
  | .move _ => true
  | .extract _ _ => true
  | .fieldAddr _ _ _ => true
  | .indexAddr _ _ _ => true
  | .binOp _ _ x y _ => (match opv st x with
    | some m => (match opv st y with
      | some n => isInt m && isInt n
      | none => false)
    | none => false)
  | .convert _ d x => (match kdE E d with
    | .int _ => (match opv st x with
      | some m => isInt m
      | none => false)
    | _ => false)
  | .unOp _ _ x => (match opv st x with
    | some m => isSca m
    | none => false)
  | .call c => (match c.callee with
    | .builtin .len => (match c.args.toList with
      | [x] => (match opv st x with
        | some (.list _) => true
        | some (.str _) => true
        | _ => false)
      | _ => false)
    | _ => false)
  | _ => false

/-! ### Values are compared -/
def keyB : MKey → MKey → Bool := fun a b => decide (a = b)
mutual
def mvB : MV → MV → Bool
  | .bool a, .bool b => a == b
  | .int k a, .int k' b => decide (k = k') && decide (a = b)
  | .str a, .str b => decide (a = b)
  | .agg a, .agg b => mvBL a b
  | .tup a, .tup b => mvBL a b
  | .list a, .list b => mvBLL a b
  | .nil, .nil => true
  | .fn f a, .fn g b => decide (f = g) && mvBL a b
  | .nilfn, .nilfn => true
  | .ptr a b, .ptr c d => decide (a = c) && decide (b = d)
  | .cptr a b, .cptr c d => mvBL a c && decide (b = d)
  | .nilptr, .nilptr => true
  | .map a, .map b => mvBE a b
  | .ifc t a, .ifc u b => decide (t = u) && mvB a b
  | .nilifc, .nilifc => true
  | _, _ => false
def mvBL : List MV → List MV → Bool
  | [], [] => true
  | a :: r, b :: q => mvB a b && mvBL r q
  | _, _ => false
def mvBLL : List (List MV) → List (List MV) → Bool
  | [], [] => true
  | a :: r, b :: q => mvBL a b && mvBLL r q
  | _, _ => false
def mvBE : List (MKey × MV) → List (MKey × MV) → Bool
  | [], [] => true
  | (k, a) :: r, (k', b) :: q => keyB k k' && (mvB a b && mvBE r q)
  | _, _ => false
end

mutual
theorem mvB_eq : ∀ (a b : MV), mvB a b = true → a = b
  | .bool a, b, h => by cases b <;> simp [mvB] at h; rw [h]
  | .int k a, b, h => by cases b <;> simp [mvB] at h; rw [h.1, h.2]
  | .str a, b, h => by cases b <;> simp [mvB] at h; rw [h]
  | .agg a, b, h => by cases b <;> simp only [mvB, Bool.false_eq_true] at h; rw [mvBL_eq a _ h]
  | .tup a, b, h => by cases b <;> simp only [mvB, Bool.false_eq_true] at h; rw [mvBL_eq a _ h]
  | .list a, b, h => by cases b <;> simp only [mvB, Bool.false_eq_true] at h; rw [mvBLL_eq a _ h]
  | .nil, b, h => by cases b <;> simp only [mvB, Bool.false_eq_true] at h; rfl
  | .fn f a, b, h => by cases b <;> simp only [mvB, Bool.false_eq_true, Bool.and_eq_true, decide_eq_true_eq] at h; rw [h.1, mvBL_eq a _ h.2]
  | .nilfn, b, h => by cases b <;> simp only [mvB, Bool.false_eq_true] at h; rfl
  | .ptr a c, b, h => by cases b <;> simp [mvB] at h; rw [h.1, h.2]
  | .cptr a c, b, h => by cases b <;> simp only [mvB, Bool.false_eq_true, Bool.and_eq_true, decide_eq_true_eq] at h; rw [mvBL_eq a _ h.1, h.2]
  | .nilptr, b, h => by cases b <;> simp only [mvB, Bool.false_eq_true] at h; rfl
  | .map a, b, h => by cases b <;> simp only [mvB, Bool.false_eq_true] at h; rw [mvBE_eq a _ h]
  | .ifc t a, b, h => by cases b <;> simp only [mvB, Bool.false_eq_true, Bool.and_eq_true, decide_eq_true_eq] at h; rw [h.1, mvB_eq a _ h.2]
  | .nilifc, b, h => by cases b <;> simp only [mvB, Bool.false_eq_true] at h; rfl
theorem mvBL_eq : ∀ (a b : List MV), mvBL a b = true → a = b
  | [], b, h => by cases b <;> simp only [mvBL, Bool.false_eq_true] at h; rfl
  | a :: r, b, h => by cases b <;> simp only [mvBL, Bool.false_eq_true, Bool.and_eq_true] at h; rw [mvB_eq a _ h.1, mvBL_eq r _ h.2]
theorem mvBLL_eq : ∀ (a b : List (List MV)), mvBLL a b = true → a = b
  | [], b, h => by cases b <;> simp only [mvBLL, Bool.false_eq_true] at h; rfl
  | a :: r, b, h => by cases b <;> simp only [mvBLL, Bool.false_eq_true, Bool.and_eq_true] at h; rw [mvBL_eq a _ h.1, mvBLL_eq r _ h.2]
theorem mvBE_eq : ∀ (a b : List (MKey × MV)), mvBE a b = true → a = b
  | [], b, h => by cases b <;> simp only [mvBE, Bool.false_eq_true] at h; rfl
  | (k, a) :: r, b, h => by
    cases b with
    | nil => simp only [mvBE, Bool.false_eq_true] at h
    | cons y q =>
      obtain ⟨k', c⟩ := y
      simp only [mvBE, keyB, Bool.and_eq_true, decide_eq_true_eq] at h
      rw [h.1, mvB_eq a _ h.2.1, mvBE_eq r _ h.2.2]
end
mutual
theorem mvB_self : ∀ (a : MV), mvB a a = true
  | .bool a => by simp [mvB]
  | .int k a => by simp [mvB]
  | .str a => by simp [mvB]
  | .agg a => by simp only [mvB]; exact mvBL_self a
  | .tup a => by simp only [mvB]; exact mvBL_self a
  | .list a => by simp only [mvB]; exact mvBLL_self a
  | .nil => by simp [mvB]
  | .fn f a => by simp [mvB, mvBL_self a]
  | .nilfn => by simp [mvB]
  | .ptr a b => by simp [mvB]
  | .cptr a b => by simp [mvB, mvBL_self a]
  | .nilptr => by simp [mvB]
  | .map a => by simp only [mvB]; exact mvBE_self a
  | .ifc t a => by simp [mvB, mvB_self a]
  | .nilifc => by simp [mvB]
theorem mvBL_self : ∀ (a : List MV), mvBL a a = true
  | [] => by simp [mvBL]
  | a :: r => by simp only [mvBL, Bool.and_eq_true]; exact ⟨mvB_self a, mvBL_self r⟩
theorem mvBLL_self : ∀ (a : List (List MV)), mvBLL a a = true
  | [] => by simp [mvBLL]
  | a :: r => by simp only [mvBLL, Bool.and_eq_true]; exact ⟨mvBL_self a, mvBLL_self r⟩
theorem mvBE_self : ∀ (a : List (MKey × MV)), mvBE a a = true
  | [] => by simp [mvBE]
  | (k, a) :: r => by simp only [mvBE, Bool.and_eq_true, keyB, decide_eq_true_eq]; exact ⟨trivial, mvB_self a, mvBE_self r⟩
end

section
variable {α : Type}

def eqM (m m' : MV) (o : Option α) : Option α := sB (mvB m m') o
theorem eqM_self (m : MV) (o : Option α) : eqM m m o = o := by unfold eqM; rw [mvB_self]; rfl

def eqCt (c c' : Ct) (o : Option α) : Option α := match c, c' with
  | .sh m, .sh m' => eqM m m' o
  | _, _ => none

def bxB : Bxs → Bxs → Bool
  | [], [] => true
  | some cs :: r, some ds :: q => (match shsM cs, shsM ds with
    | some a, some b => mvBL a b && bxB r q
    | _, _ => false)
  | _, _ => false
/-- Both ways come to one. -/
def eqO (o o' : Out) : Out := match o, o' with
  | some (r, B), some (r', B') => sB (mvBL (r.map (·.2)) (r'.map (·.2)) && (decide (r.map (·.1) = r'.map (·.1)) && bxB B B')) (some (r, B))
  | _, _ => none

/-! ### Regions -/
def St.lit (st : St) (d : Nat) (b : Bool) : St := ⟨pt st.v d (.sh (.bool b)), st.B⟩

def runF (E : Env) (cl : FuncId → List MV → Bxs → Out) (nt : Nat) (fz : List Nat) (gs : List (Option Tmp)) : List Oper → St → (St → Option α) → Option α
  | [], st, K => K st
  | o :: r, st, K => match o.guard with
    | none => opF E cl true nt fz o st (fun st' => runF E cl nt fz gs r st' K)
    | some (j, want) => match gs[j]? with
      | some (some d) => match lk st.v d with
        | .sh (.bool b) => match want with
          | true => cnd b (opF E cl true nt fz o (st.lit d true) (fun st' => runF E cl nt fz gs r st' K)) (dstF o.dst nt (runF E cl nt fz gs r (putO (st.lit d false) o.dst (.sh (.tup []))) K))
          | false => cnd b (dstF o.dst nt (runF E cl nt fz gs r (putO (st.lit d true) o.dst (.sh (.tup []))) K)) (opF E cl true nt fz o (st.lit d false) (fun st' => runF E cl nt fz gs r st' K))
        | .sh (.tup []) => dstF o.dst nt (runF E cl nt fz gs r (putO st o.dst (.sh (.tup []))) K)
        | _ => none
      | _ => none

def noStrE (E : Env) : Op → Bool
  | .convert _ T _ => match kdE E T with
    | .slice _ => false
    | .other => false
    | _ => true
  | _ => true

/-- An operation that was run early says the same still. -/
def stlF (E : Env) (nt : Nat) (ops : Array Oper) (st : St) (i : Nat) (K : Option α) : Option α :=
  match ops.toList.drop i with
  | o :: _ => match o.dst with
    | some d => sB (Nat.blt d nt && pureK o.op && isShD (lk st.v d)) (match o.guard with
      | none => pureF E st o.op (fun c => eqCt c (lk st.v d) K)
      | some (j, want) => match dstN ops j with
        | some e => (match lk st.v e with
          | .sh (.bool b) => (match want with
            | true => cnd b (pureF E st o.op (fun c => eqCt c (lk st.v d) K)) (eqCt (.sh (.tup [])) (lk st.v d) K)
            | false => cnd b (eqCt (.sh (.tup [])) (lk st.v d) K) (pureF E st o.op (fun c => eqCt c (lk st.v d) K)))
          | .sh (.tup []) => eqCt (.sh (.tup [])) (lk st.v d) K
          | _ => none)
        | none => none)
    | none => none
  | [] => none

def stlsF (E : Env) (nt : Nat) (ops : Array Oper) (st : St) : List Nat → Option α → Option α
  | [], K => K
  | i :: r, K => stlF E nt ops st i (stlsF E nt ops st r K)

/-- One operation of a region whose order is open. -/
def oneF (E : Env) (cl : FuncId → List MV → Bxs → Out) (nt : Nat) (fz : List Nat) (ops : Array Oper) (o : Oper) (st : St) (K : St → Option α) : Option α :=
  match o.guard with
  | none => opF E cl false nt fz o st K
  | some (j, want) => match dstN ops j with
    | some e => (match lk st.v e with
      | .sh (.bool b) => (match want with
        | true => cnd b (opF E cl false nt fz o st K) (dstF o.dst nt (K (putO st o.dst (.sh (.tup [])))))
        | false => cnd b (dstF o.dst nt (K (putO st o.dst (.sh (.tup []))))) (opF E cl false nt fz o st K))
      | .sh (.tup []) => dstF o.dst nt (K (putO st o.dst (.sh (.tup []))))
      | _ => none)
    | none => none

def eqNL : List Nat → List Nat → Bool
  | [], [] => true
  | a :: r, b :: q => Nat.beq a b && eqNL r q
  | _, _ => false

end

/-- May it be run early: nobody who waits touches what it touches. -/
def okReg (ops : Array Oper) (S R : List Nat) (i : Nat) : Bool :=
  match ops[i]? with
  | none => false
  | some oi => match oi.dst with
    | none => false
    | some d => pureK oi.op && (i :: (S ++ R)).all (fun j => match ops[j]? with
      | none => false
      | some o => !(o.looksAt ops).contains d) && (S ++ R).all (fun j => dstN ops j != some d) && S.all (fun j => match dstN ops j with
      | none => false
      | some e => !(oi.looksAt ops).contains e)
def okLod (ops : Array Oper) (S R : List Nat) (i : Nat) : Bool :=
  match ops[i]? with
  | none => false
  | some oi => match oi.dst with
    | none => false
    | some d => pureK oi.op && (i :: (S ++ R)).all (fun j => match ops[j]? with
      | none => false
      | some o => !(o.looksAt ops).contains d) && (S ++ R).all (fun j => dstN ops j != some d)
/-- What is done now touches nothing that those who wait look at. -/
def okOne (ops : Array Oper) (o : Oper) (R : List Nat) : Bool :=
  match o.dst with
  | none => true
  | some d => R.all fun j => match ops[j]? with
    | none => false
    | some oj => !(oj.looksAt ops).contains d && oj.dst != some d

/-- An operation that is run early; rg: as one that does not look into memory. -/
def earlyF {α : Type} (E : Env) (nt : Nat) (ops : Array Oper) (rg : Bool) (o : Oper) (st : St) (K : Ct → Option α) : Option α :=
  match o.guard with
  | none => sB (!rg || regK E st o.op) (dstF o.dst nt (pureF E st o.op K))
  | some (j, want) => match dstN ops j with
    | some e => (match lk st.v e with
      | .sh (.bool b) => (match want with
        | true => cnd b (sB (!rg || regK E st o.op) (dstF o.dst nt (pureF E st o.op K))) (dstF o.dst nt (K (.sh (.tup []))))
        | false => cnd b (dstF o.dst nt (K (.sh (.tup [])))) (sB (!rg || regK E st o.op) (dstF o.dst nt (pureF E st o.op K))))
      | .sh (.tup []) => dstF o.dst nt (K (.sh (.tup [])))
      | _ => none)
    | none => none
def ctOk (S : List Nat) (st : St) (d : Nat) (ct : Ct) : Bool := match S with
  | [] => true
  | _ :: _ => isShD (lk st.v d) && isShD ct

/-- A guard is asked: from now on its slot tells. -/
def litF {α : Type} (ops : Array Oper) (o : Oper) (st : St) (F : St → Option α) : Option α :=
  match o.guard with
  | none => F st
  | some (j, _) => match dstN ops j with
    | some e => (match lk st.v e with
      | .sh (.bool b) => cnd b (F (st.lit e true)) (F (st.lit e false))
      | _ => F st)
    | none => F st

/-- A region whose order is open, by a plan: L: done; S: loads that may wait still; R: others that may wait still. -/
def drwF (E : Env) (cl : FuncId → List MV → Bxs → Out) (nt : Nat) (fz : List Nat) (ops : Array Oper) : Sd → List Nat → List Nat → List Nat → St → (St → Out) → Out
  | .fin, L, S, R, st, K => sB ((List.range ops.size).all fun i => memN L i) (K st)
  | .reg i r, L, S, R, st, K => match ops.toList.drop i with
    | o :: _ => (match o.dst with
      | some d => sB (!memN L i && okReg ops S R i) (litF ops o st fun st => earlyF E nt ops true o st (fun ct => sB (ctOk S st d ct) (drwF E cl nt fz ops r (i :: L) S (i :: R) (st.put d ct) K)))
      | none => none)
    | [] => none
  | .take i r, L, S, R, st, K => match ops.toList.drop i with
    | o :: _ => (match o.dst with
      | some d => sB (!memN L i && okLod ops S R i) (litF ops o st fun st => earlyF E nt ops false o st (fun ct => sB (isShD (lk st.v d) && isShD ct) (stlF E nt ops (st.put d ct) i (drwF E cl nt fz ops r (i :: L) (i :: S) R (st.put d ct) K))))
      | none => none)
    | [] => none
  | .one j S' R' r, L, S, R, st, K => match ops.toList.drop j with
    | o :: _ => sB (eqNL (nextOf ops L) [j] && eqNL (restOf ops S j) S' && eqNL (restOf ops R j) R' && okOne ops o R') (litF ops o st fun st => oneF E cl nt fz ops o st (fun st' => stlsF E nt ops st' S' (drwF E cl nt fz ops r (j :: L) S' R' st' K)))
    | [] => none
  | .two j S' R' r m, L, S, R, st, K => match ops.toList.drop j with
    | o :: _ => sB (eqNL (nextOf ops L) (altsD (.two j S' R' r m)) && eqNL (restOf ops S j) S' && eqNL (restOf ops R j) R' && okOne ops o R') (eqO (oneF E cl nt fz ops o st (fun st' => stlsF E nt ops st' S' (drwF E cl nt fz ops r (j :: L) S' R' st' K))) (altF E cl nt fz ops m L S R st K))
    | [] => none
where
  altF (E : Env) (cl : FuncId → List MV → Bxs → Out) (nt : Nat) (fz : List Nat) (ops : Array Oper) : Sd → List Nat → List Nat → List Nat → St → (St → Out) → Out
  | .one j S' R' r, L, S, R, st, K => match ops.toList.drop j with
    | o :: _ => sB (eqNL (restOf ops S j) S' && eqNL (restOf ops R j) R' && okOne ops o R') (oneF E cl nt fz ops o st (fun st' => stlsF E nt ops st' S' (drwF E cl nt fz ops r (j :: L) S' R' st' K)))
    | [] => none
  | .two j S' R' r m, L, S, R, st, K => match ops.toList.drop j with
    | o :: _ => sB (eqNL (restOf ops S j) S' && eqNL (restOf ops R j) R' && okOne ops o R') (eqO (oneF E cl nt fz ops o st (fun st' => stlsF E nt ops st' S' (drwF E cl nt fz ops r (j :: L) S' R' st' K))) (altF E cl nt fz ops m L S R st K))
    | [] => none
  | _, _, _, _, _, _ => none

/-! ### Statements -/
abbrev seqK {α : Type} (f : St → Option α) (K : PX → St → Option α) : PX → St → Option α
  | .normal, st => f st
  | .exit i, st => K (.exit i) st
  | .ret, st => K .ret st
abbrev blkK {α : Type} (id : Nat) (K : PX → St → Option α) : PX → St → Option α
  | .exit id', st => match Nat.beq id' id with
    | true => K .normal st
    | false => K (.exit id') st
  | .normal, st => K .normal st
  | .ret, st => K .ret st

def itr {α : Type} (body : St → (PX → St → Option α) → Option α) (kp : List Nat) : Nat → St → (PX → St → Option α) → Option α
  | 0, _, _ => none
  | n + 1, st, K => (fun (_ : Option α) => body st (seqK (fun st' => itr body kp n (st'.norm kp) K) K)) (bot α)

def exec (E : Env) (cl : FuncId → List MV → Bxs → Out) (nt : Nat) (fz : List Nat) : Pl → Code → St → (PX → St → Out) → Out
  | .leaf, .skip, st, K => K .normal st
  | .leaf, .label _, st, K => K .normal st
  | .leaf, .exit id, st, K => K (.exit id) st
  | .leaf, .ret, st, K => K .ret st
  | .leaf, .region id ops false, st, K => runF E cl nt fz (ops.toList.map (·.dst)) ops.toList st (fun st' => K .normal st')
  | .draw s, .region id ops true, st, K => sB (regOk ops) (drwF E cl nt fz ops s [] [] [] st (fun st' => K .normal st'))
  | .seq p k q, .seq a b, st, K => exec E cl nt fz p a st (seqK (fun st' => exec E cl nt fz q b (st'.norm k) K) K)
  | .cond k p q, .cond (.tmp t) a b, st, K => match lk st.v t with
    | .sh (.bool v) => cnd v (exec E cl nt fz p a (st.norm k) K) (exec E cl nt fz q b (st.norm k) K)
    | _ => none
  | .one p, .block id c, st, K => exec E cl nt fz p c st (blkK id K)
  | .loop k p, .loop c, st, K => itr (exec E cl nt fz p c) k E.fu (st.norm k) K
  | .frz t p, c, st, K => match lk st.v t with
    | .sh (.ptr k 0) => match st.B[k]? with
      | some (some cs) => sO (shsM cs) fun ms => exec E cl nt fz p c ⟨pt st.v t (.sh (.cptr ms 0)), st.B.set k none⟩ K
      | _ => none
    | _ => none
  | .shr ts p, c, st, K => exec E cl nt fz p c (retOs st (ts.map .tmp)) K
  | .cut p, c, st, K => nxt (fun st' => exec E cl nt fz p c st' K) st
  | _, _, _, _ => none

/-! ### Functions -/
def resF (E : Env) (st : St) : List ResultVar → List (Option Nat × Sh) → (Res → Out) → Out
  | [], [], K => K []
  | .tmp s :: r, (ow, _) :: q, K => match ow with
    | none => (match lk st.v s with
      | .sh m => resF E st r q fun l => K ((none, m.top) :: l)
      | _ => none)
    | some sz => (match lk st.v s with
      | .own sz' m => sB (Nat.beq sz sz') (resF E st r q fun l => K ((some sz, m) :: l))
      | .sh .nil => resF E st r q fun l => K ((some sz, .list []) :: l)
      | _ => none)
  | .cell s T :: r, (none, _) :: q, K => sO (loadF E st T (.tmp s) some) fun c => match c with
    | .sh m => resF E st r q fun l => K ((none, m.top) :: l)
    | _ => none
  | _, _, _ => none

def shrR : List ResultVar → List (Option Nat × Sh) → List Operand
  | .tmp s :: r, (none, _) :: q => .tmp s :: shrR r q
  | _ :: r, _ :: q => shrR r q
  | _, _ => []

def finF (E : Env) (nB : Nat) (rs : List ResultVar) (sg : List (Option Nat × Sh)) (e : PX) (st : St) : Out :=
  match e with
  | .exit _ => none
  | _ => resF E (retOs st (shrR rs sg)) rs sg fun r => some (r, (retOs st (shrR rs sg)).B.take nB)

/-- Nothing that is handed out leads to a variable in memory. -/
def npO (nB : Nat) (o : Out) : Out := match o with
  | some (r, B) => npG (r.map (·.2)) (match nB with
    | 0 => some (r, [])
    | _ + 1 => match B with
      | some cs :: _ => sO (shsM cs) fun cm => npG cm (some (r, [some cs]))
      | _ => none)
  | none => none

def bodyF (E : Env) (cl : FuncId → List MV → Bxs → Out) (nt : Nat) (rs : List ResultVar) (fp : FnP) (c : Code) (args : List MV) (B : Bxs) : Out :=
  exec E cl nt fp.fz fp.pl c ⟨argsV 0 args, B⟩ (finF E B.length rs fp.sg)

def evalF (P : Program) (E : Env) (X : List (Nat × (List MV → Out))) : Nat → FuncId → List MV → Bxs → Out
  | 0, _, _, _ => none
  | n + 1, g, args, B => match lkN X g with
    | some h => (match B with
      | [] => h args
      | _ :: _ => none)
    | none => match P.funcs[g]? with
      | none => none
      | some fn => match fn.body with
        | none => none
        | some c => match lkN E.fn g with
          | none => none
          | some fp => sB (!(fn.name == "runtime.NumGoroutine") && Nat.ble args.length fn.ntmps) (npO B.length (bodyF E (evalF P E X n) fn.ntmps fn.results.toList fp c args B))

end Go.Pv
