/- The library of this work, H texts, part R: regions, statements and functions as functions of pure values. -/
import Derived.Test.YtlfbfhgoehndpaaGreatDoorHQ
set_option linter.unusedVariables false
set_option linter.unusedSimpArgs false
noncomputable section
namespace Go.Pv

section
variable {α : Type}

def eqM (m m' : MV) (o : Option α) : Option α := sB (mvB m m') o
theorem eqM_self (m : MV) (o : Option α) : eqM m m o = o := by unfold eqM; rw [mvB_self]; rfl

def obB : Ob → Ob → Bool
  | .box a, .box b => mvBL a b
  | .row d s es [], .row d' s' es' [] => (d == d') && (Nat.beq s s' && mvBLL es es')
  | .map d m [], .map d' m' [] => (d == d') && mvBE m m'
  | .bld a, .bld b => mvB (.str a) (.str b)
  | _, _ => false
def bxB : Bxs → Bxs → Bool
  | [], [] => true
  | some a :: r, some b :: q => obB a b && bxB r q
  | none :: r, none :: q => bxB r q
  | _, _ => false
/-- Both ways come to one. -/
def eqO (o o' : Out) : Out := match o, o' with
  | some (r, B), some (r', B') => sB (mvBL r r' && bxB B B') (some (r, B))
  | _, _ => none

/-! ### Regions -/
def St.lit (st : St) (d : Nat) (b : Bool) : St := ⟨pt st.v d (.bool b), st.B⟩
def dstL (gs : List (Option Tmp)) (j : Nat) : Option Nat := match gs[j]? with
  | some (some d) => some d
  | _ => none
def gsO (ops : Array Oper) : List (Option Tmp) := ops.toList.map (·.dst)

/-- A guard is asked: from now on its slot tells. -/
def litF (gs : List (Option Tmp)) (o : Oper) (st : St) (F : St → Option α) : Option α :=
  match o.guard with
  | none => F st
  | some (j, _) => match dstL gs j with
    | some e => (match lk st.v e with
      | .bool b => cnd b (F (st.lit e true)) (F (st.lit e false))
      | _ => F st)
    | none => F st
/-- One operation, if it is wanted. -/
def oneF (E : Env) (cl : Cl) (nt : Nat) (fp : FnP) (gs : List (Option Tmp)) (o : Oper) (st : St) (K : St → Option α) : Option α :=
  match o.guard with
  | none => opF E cl nt fp o st K
  | some (j, want) => match dstL gs j with
    | some e => (match lk st.v e with
      | .bool b => (match want with
        | true => cnd b (opF E cl nt fp o st K) (dstF o.dst nt (K (putO st o.dst (.tup []))))
        | false => cnd b (dstF o.dst nt (K (putO st o.dst (.tup [])))) (opF E cl nt fp o st K))
      | .tup [] => dstF o.dst nt (K (putO st o.dst (.tup [])))
      | _ => none)
    | none => none
def runF (E : Env) (cl : Cl) (nt : Nat) (fp : FnP) (gs : List (Option Tmp)) : List Oper → St → (St → Option α) → Option α
  | [], st, K => K st
  | o :: r, st, K => litF gs o st fun st' => oneF E cl nt fp gs o st' fun st2 => runF E cl nt fp gs r st2 K

/-- An operation that was run early says the same still. -/
def stlF (E : Env) (nt : Nat) (gs : List (Option Tmp)) (ops : Array Oper) (st : St) (i : Nat) (K : Option α) : Option α :=
  match ops.toList.drop i with
  | o :: _ => match o.dst with
    | some d => sB (Nat.blt d nt && pureK o.op) (match o.guard with
      | none => pureF E st o.op (fun c => eqM c (lk st.v d) K)
      | some (j, want) => match dstL gs j with
        | some e => (match lk st.v e with
          | .bool b => (match want with
            | true => cnd b (pureF E st o.op (fun c => eqM c (lk st.v d) K)) (eqM (.tup []) (lk st.v d) K)
            | false => cnd b (eqM (.tup []) (lk st.v d) K) (pureF E st o.op (fun c => eqM c (lk st.v d) K)))
          | .tup [] => eqM (.tup []) (lk st.v d) K
          | _ => none)
        | none => none)
    | none => none
  | [] => none
def stlsF (E : Env) (nt : Nat) (gs : List (Option Tmp)) (ops : Array Oper) (st : St) : List Nat → Option α → Option α
  | [], K => K
  | i :: r, K => stlF E nt gs ops st i (stlsF E nt gs ops st r K)

/-- An operation that is run early; rg: as one that does not look into memory. -/
def earlyF (E : Env) (nt : Nat) (gs : List (Option Tmp)) (rg : Bool) (o : Oper) (st : St) (K : MV → Option α) : Option α :=
  match o.guard with
  | none => sB (!rg || regK E st o.op) (dstF o.dst nt (pureF E st o.op K))
  | some (j, want) => match dstL gs j with
    | some e => (match lk st.v e with
      | .bool b => (match want with
        | true => cnd b (sB (!rg || regK E st o.op) (dstF o.dst nt (pureF E st o.op K))) (dstF o.dst nt (K (.tup [])))
        | false => cnd b (dstF o.dst nt (K (.tup []))) (sB (!rg || regK E st o.op) (dstF o.dst nt (pureF E st o.op K))))
      | .tup [] => dstF o.dst nt (K (.tup []))
      | _ => none)
    | none => none
end

/-- May it be run early: nobody who waits touches what it touches. -/
def okReg (ops : Array Oper) (S R : List Nat) (i : Nat) : Bool :=
  match ops[i]? with
  | none => false
  | some oi => match oi.dst with
    | none => false
    | some d => pureK oi.op && (i :: (S ++ R)).all (fun j => match ops[j]? with
      | none => false
      | some o => !(o.looksAt ops).contains d) && (S ++ R).all (fun j => dstN ops j != some d) && S.all (fun j => match dstN ops j with
      | none => false
      | some e => !(oi.looksAt ops).contains e)
def okLod (ops : Array Oper) (S R : List Nat) (i : Nat) : Bool :=
  match ops[i]? with
  | none => false
  | some oi => match oi.dst with
    | none => false
    | some d => pureK oi.op && (i :: (S ++ R)).all (fun j => match ops[j]? with
      | none => false
      | some o => !(o.looksAt ops).contains d) && (S ++ R).all (fun j => dstN ops j != some d)

/-! #### Rows of constants come late -/
def isCst : Nat × Operand → Bool
  | (_, .const _) => true
  | _ => false
/-- What a row of constants is. -/
def lateV (E : Env) (nt : Nat) (fp : FnP) (o : Oper) : Option (Nat × LM) := match o.guard, o.dst, o.op with
  | none, some d, .alloc T => (match lkN E.ty T with
    | some ti => (match Nat.blt d nt && !memN fp.fz d && !memN fp.hd d with
      | true => some (d, .box (ti.zero.map MV.top))
      | false => none)
    | none => none)
  | none, some d, .buildSlice T len parts => (match kdE E T with
    | .slice e => (match szE E e with
      | 0 => none
      | sz + 1 => (match parts.toList.all isCst && Nat.blt d nt with
        | true => (match shvs ⟨[], []⟩ (parts.toList.map (·.2)) with
          | some ms => (match litE 0 ((parts.toList.map (·.1)).zip ms) with
            | some es => (match Nat.beq es.length len && Nat.ble (len * (sz + 1)) 16777216 && ms.all noTup && wid (sz + 1) es && allNp es with
              | true => some (d, .val (.list es))
              | false => none)
            | none => none)
          | none => none)
        | false => none))
    | _ => none)
  | _, _, _ => none
def lateT (E : Env) (nt : Nat) (fp : FnP) (ops : Array Oper) : List Nat → Option Lts
  | [] => some []
  | i :: l => match ops.toList.drop i with
    | o :: _ => (match lateV E nt fp o, lateT E nt fp ops l with
      | some (d, m), some T => (match T.all fun t => !Nat.beq t.1 i && !Nat.beq t.2.1 d && !(isBox m && isBox t.2.2) with
        | true => some ((i, d, m) :: T)
        | false => none)
      | _, _ => none)
    | [] => none
/-- One that is run early touches no late one. -/
def okE (ops : Array Oper) (T : Lts) (i : Nat) (o : Oper) : Bool := T.all fun t => !Nat.beq t.1 i && !(o.looksAt ops).contains t.2.1 && o.dst != some t.2.1
abbrev ksT (T : Lts) : List Nat := T.map (·.1)

/-- A region whose order is open, by a plan: L: done; S: loads that may wait still; R: others that may wait still; T: what may come late. -/
def drwF (E : Env) (cl : Cl) (nt : Nat) (fp : FnP) (gs : List (Option Tmp)) (ops : Array Oper) : Sd → List Nat → List Nat → List Nat → Lts → St → (St → Out) → Out
  | .fin, L, S, R, T, st, K => sB ((List.range ops.size).all fun i => memN L i) (K st)
  | .reg i r, L, S, R, T, st, K => match ops.toList.drop i with
    | o :: _ => (match o.dst with
      | some d => sB (!memN L i && okReg ops S R i && okE ops T i o) (litF gs o st fun st => earlyF E nt gs true o st (fun ct => drwF E cl nt fp gs ops r (i :: L) S (i :: R) T (st.put d ct) K))
      | none => none)
    | [] => none
  | .take i r, L, S, R, T, st, K => match ops.toList.drop i with
    | o :: _ => (match o.dst with
      | some d => sB (!memN L i && okLod ops S R i && okE ops T i o) (litF gs o st fun st => earlyF E nt gs false o st (fun ct => stlF E nt gs ops (st.put d ct) i (drwF E cl nt fp gs ops r (i :: L) (i :: S) R T (st.put d ct) K)))
      | none => none)
    | [] => none
  | .one j S' R' r, L, S, R, T, st, K => match ops.toList.drop j with
    | o :: _ => sB (eqNL (nextOf ops (ksT T ++ L)) [j] && eqNL (restOf ops S j) S' && eqNL (restOf ops R j) R' && okOne ops o R' && okK ops T o) (litF gs o st fun st => oneF E cl nt fp gs o (matS (matM T o) st) (fun st' => stlsF E nt gs ops st' S' (drwF E cl nt fp gs ops r (j :: (ksT (matM T o) ++ L)) S' R' (matR T o) st' K)))
    | [] => none
  | .two j S' R' r m, L, S, R, T, st, K => match ops.toList.drop j with
    | o :: _ => sB (eqNL (nextOf ops (ksT T ++ L)) (altsD (.two j S' R' r m)) && eqNL (restOf ops S j) S' && eqNL (restOf ops R j) R' && okOne ops o R' && okK ops T o) (eqO (oneF E cl nt fp gs o (matS (matM T o) st) (fun st' => stlsF E nt gs ops st' S' (drwF E cl nt fp gs ops r (j :: (ksT (matM T o) ++ L)) S' R' (matR T o) st' K))) (altF E cl nt fp gs ops m L S R T st K))
    | [] => none
where
  altF (E : Env) (cl : Cl) (nt : Nat) (fp : FnP) (gs : List (Option Tmp)) (ops : Array Oper) : Sd → List Nat → List Nat → List Nat → Lts → St → (St → Out) → Out
  | .one j S' R' r, L, S, R, T, st, K => match ops.toList.drop j with
    | o :: _ => sB (eqNL (restOf ops S j) S' && eqNL (restOf ops R j) R' && okOne ops o R' && okK ops T o) (oneF E cl nt fp gs o (matS (matM T o) st) (fun st' => stlsF E nt gs ops st' S' (drwF E cl nt fp gs ops r (j :: (ksT (matM T o) ++ L)) S' R' (matR T o) st' K)))
    | [] => none
  | .two j S' R' r m, L, S, R, T, st, K => match ops.toList.drop j with
    | o :: _ => sB (eqNL (restOf ops S j) S' && eqNL (restOf ops R j) R' && okOne ops o R' && okK ops T o) (eqO (oneF E cl nt fp gs o (matS (matM T o) st) (fun st' => stlsF E nt gs ops st' S' (drwF E cl nt fp gs ops r (j :: (ksT (matM T o) ++ L)) S' R' (matR T o) st' K))) (altF E cl nt fp gs ops m L S R T st K))
    | [] => none
  | _, _, _, _, _, _, _ => none

/-! ### Statements -/
abbrev seqK {α : Type} (f : St → Option α) (K : PX → St → Option α) : PX → St → Option α
  | .normal, st => f st
  | .exit i, st => K (.exit i) st
  | .ret, st => K .ret st
abbrev blkK {α : Type} (id : Nat) (K : PX → St → Option α) : PX → St → Option α
  | .exit id', st => match Nat.beq id' id with
    | true => K .normal st
    | false => K (.exit id') st
  | .normal, st => K .normal st
  | .ret, st => K .ret st

def itr {α : Type} (body : St → (PX → St → Option α) → Option α) (nB : Nat) (nk kp : List Nat) : Nat → St → (PX → St → Option α) → Option α
  | 0, _, _ => none
  | n + 1, st, K => (fun (_ : Option α) => body st (seqK (fun st' => itr body nB nk kp n (st'.norm nB nk kp) K) K)) (bot α)

def exec (E : Env) (cl : Cl) (nt nB : Nat) (fp : FnP) : Pl → Code → St → (PX → St → Out) → Out
  | .leaf, .skip, st, K => K .normal st
  | .leaf, .label _, st, K => K .normal st
  | .leaf, .exit id, st, K => K (.exit id) st
  | .leaf, .ret, st, K => K .ret st
  | .leaf, .region id ops false, st, K => runF E cl nt fp (gsO ops) ops.toList st (fun st' => K .normal st')
  | .draw s, .region id ops true, st, K => sB (regOk ops) (drwF E cl nt fp (gsO ops) ops s [] [] [] [] st (fun st' => K .normal st'))
  | .late l s, .region id ops true, st, K => sB (regOk ops) (sO (lateT E nt fp ops l) fun T => drwF E cl nt fp (gsO ops) ops s [] [] [] T st (fun st' => K .normal st'))
  | .seq p k q, .seq a b, st, K => exec E cl nt nB fp p a st (seqK (fun st' => exec E cl nt nB fp q b (st'.norm nB fp.nk k) K) K)
  | .cond k p q, .cond (.tmp t) a b, st, K => match lk st.v t with
    | .bool v => cnd v (exec E cl nt nB fp p a (st.norm nB fp.nk k) K) (exec E cl nt nB fp q b (st.norm nB fp.nk k) K)
    | _ => none
  | .one p, .block id c, st, K => exec E cl nt nB fp p c st (blkK id K)
  | .loop k p, .loop c, st, K => itr (exec E cl nt nB fp p c) nB fp.nk k E.fu (st.norm nB fp.nk k) K
  | .frz t p, c, st, K => (match lk st.v t with
    | .ptr k 0 => (match st.B[k]? with
      | some (some (.box ds)) => npG ds (exec E cl nt nB fp p c (st.frz k ds) K)
      | _ => none)
    | _ => none)
  | .shr ts p, c, st, K => sO (st.shrs (ts.map .tmp)) fun st' => exec E cl nt nB fp p c st' K
  | .own l p, c, st, K => exec E cl nt nB fp p c (st.owns l) K
  | .cut p, c, st, K => nxt (fun st' => exec E cl nt nB fp p c st' K) st
  | _, _, _, _ => none

/-! ### Functions -/
def bodyF (E : Env) (cl : Cl) (nt : Nat) (rs : List ResultVar) (fp : FnP) (c : Code) (args : List MV) (B : Bxs) : Out :=
  exec E cl nt B.length fp fp.pl c ⟨argsV 0 args, B⟩ (finF E B.length rs fp.sg)

/-- Functions that are told otherwise. -/
abbrev XT := List (Nat × (Cl → List MV → Bxs → Out))

/-- The plan of a function, or of a variant. -/
def fpV (E : Env) (v g : Nat) : Option FnP := match v with
  | 0 => lkN E.fn g
  | v + 1 => lkN E.sp (v + 1)
def evalF (P : Program) (E : Env) (X : XT) : Nat → Cl
  | 0, _, _, _, _ => none
  | n + 1, v, g, args, B => match lkN X g with
    | some h => h (evalF P E X n) args B
    | none => match P.funcs[g]? with
      | none => none
      | some fn => match fn.body with
        | none => none
        | some c => match fpV E v g with
          | none => none
          | some fp => sB (!(fn.name == "runtime.NumGoroutine") && Nat.ble args.length fn.ntmps) (bodyF E (evalF P E X n) fn.ntmps fn.results.toList fp c args B)
end Go.Pv
end
