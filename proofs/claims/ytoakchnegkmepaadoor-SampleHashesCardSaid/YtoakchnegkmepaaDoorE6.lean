/- The library of this work, part E6: parts of a function's code by name; words for laws. -/
import Derived.Test.YtoakchnegkmepaaDoorE5
set_option linter.unusedVariables false
set_option linter.unusedSimpArgs false
namespace Go.Pv

def codeOf (f : Func) : Code := match f.body with
  | some c => c
  | none => .skip

/-- What stands at a place of the code, and what comes behind it. -/
def ctxX (E : Env) (cl : FuncId → List MV → Bxs → Out) (nt : Nat) (fz : List Nat) : Pl → Code → List Nat → List Nat → (PX → St → Out) → Pl × Code × (PX → St → Out)
  | p, c, [], _, K => (p, c, K)
  | .seq p k q, .seq a b, 0 :: r, fs, K => ctxX E cl nt fz p a r fs (seqK (fun st' => exec E cl nt fz q b (st'.norm k) K) K)
  | .seq p k q, .seq a b, _ :: r, fs, K => ctxX E cl nt fz q b r fs K
  | .cond k p q, .cond _ a b, 0 :: r, fs, K => ctxX E cl nt fz p a r fs K
  | .cond k p q, .cond _ a b, _ :: r, fs, K => ctxX E cl nt fz q b r fs K
  | .one p, .block id c, _ :: r, fs, K => ctxX E cl nt fz p c r fs (blkK id K)
  | .loop k p, .loop c, _ :: r, f :: fs, K => ctxX E cl nt fz p c r fs (seqK (fun st' => itr (exec E cl nt fz p c) k f (st'.norm k) K) K)
  | .frz t p, c, _ :: r, fs, K => ctxX E cl nt fz p c r fs K
  | .shr ts p, c, _ :: r, fs, K => ctxX E cl nt fz p c r fs K
  | .cut p, c, _ :: r, fs, K => ctxX E cl nt fz p c r fs K
  | p, c, _, _, K => (p, c, K)

def ctxF (E : Env) (cl : FuncId → List MV → Bxs → Out) (nB : Nat) (fn : Func) (fp : FnP) (path fs : List Nat) : Pl × Code × (PX → St → Out) :=
  ctxX E cl fn.ntmps fp.fz fp.pl (codeOf fn) path fs (finF E nB fn.results.toList fp.sg)
/-- What comes from a place on. -/
def jmp (E : Env) (cl : FuncId → List MV → Bxs → Out) (nB : Nat) (fn : Func) (fp : FnP) (path fs : List Nat) (st : St) : Out :=
  exec E cl fn.ntmps fp.fz (ctxF E cl nB fn fp path fs).1 (ctxF E cl nB fn fp path fs).2.1 st (ctxF E cl nB fn fp path fs).2.2
def lpP : Pl → Pl
  | .loop _ p => p
  | p => p
def lpK : Pl → List Nat
  | .loop k _ => k
  | _ => []
def lpC : Code → Code
  | .loop c => c
  | c => c
/-- One round of a loop. -/
def rnd (E : Env) (cl : FuncId → List MV → Bxs → Out) (nB : Nat) (fn : Func) (fp : FnP) (path fs : List Nat) : St → (PX → St → Out) → Out :=
  exec E cl fn.ntmps fp.fz (lpP (ctxF E cl nB fn fp path fs).1) (lpC (ctxF E cl nB fn fp path fs).2.1)
/-- A loop at a place, so many rounds at most. -/
abbrev lps (E : Env) (cl : FuncId → List MV → Bxs → Out) (nB : Nat) (fn : Func) (fp : FnP) (path fs : List Nat) (f : Nat) (st : St) : Out :=
  itr (rnd E cl nB fn fp path fs) (lpK (ctxF E cl nB fn fp path fs).1) f st (ctxF E cl nB fn fp path fs).2.2

/-- A function, unrolled once. -/
theorem evalF_seg {P : Program} {E : Env} {X : List (Nat × (List MV → Out))} {n g : Nat} {args : List MV} {B : Bxs} {fn : Func} {fp : FnP} (hX : lkN X g = none) (hf : P.funcs[g]? = some fn) (hb : fn.body.isSome = true) (hp : lkN E.fn g = some fp) (hname : (fn.name == "runtime.NumGoroutine") = false) (hna : Nat.ble args.length fn.ntmps = true) {o : Out}
    (h : jmp E (evalF P E X n) B.length fn fp [] [] ⟨argsV 0 args, B⟩ = o) : evalF P E X (n + 1) g args B = npO B.length o := by
  cases hc : fn.body with
  | none => rw [hc] at hb; simp at hb
  | some c =>
    rw [evalF_eq hX hf hc hp rfl rfl hname hna]
    unfold jmp ctxF at h
    have e : codeOf fn = c := by unfold codeOf; rw [hc]
    rw [e] at h
    unfold bodyF
    congr 1
    have e2 : ∀ (p : Pl) (c : Code) K, ctxX E (evalF P E X n) fn.ntmps fp.fz p c [] [] K = (p, c, K) := by
      intro p c K; cases p <;> cases c <;> rfl
    rw [e2] at h
    exact h

/-! ### Short words -/
section
variable {α : Type}
def rI (k : IntKind) (o : Out) (K : Int → Option α) : Option α := callE o fun r _ => rC none r fun m q => dI k m fun x => rN q (K x)
def rB (o : Out) (K : Bool → Option α) : Option α := callE o fun r _ => rC none r fun m q => dB m fun x => rN q (K x)
def rS (o : Out) (K : ByteArray → Option α) : Option α := callE o fun r _ => rC none r fun m q => dS m fun x => rN q (K x)
def rL (o : Out) (K : List (List MV) → Option α) : Option α := callE o fun r _ => rC none r fun m q => dL m fun x => rN q (K x)
def rO (sz : Nat) (o : Out) (K : List (List MV) → Option α) : Option α := callE o fun r _ => rC (some sz) r fun m q => dL m fun x => rN q (K x)
end

def allT (P : Program) : List (Nat × TI) → Prop
  | [] => True
  | x :: r => tiOf P x.1 = some x.2 ∧ allT P r
def allQ (P : Program) : List (Nat × List TK) → Prop
  | [] => True
  | x :: r => eqTy P x.1 = some x.2 ∧ allQ P r
theorem env_ty {P : Program} : ∀ {tab : List (Nat × TI)}, allT P tab → ∀ T ti, lkN tab T = some ti → tiOf P T = some ti
  | [], _, T, ti, h => by simp [lkN] at h
  | (k, y) :: r, ha, T, ti, h => by
    simp only [lkN] at h
    split at h
    · rename_i e
      injection h with h; subst h
      rw [← beq_nat e]; exact ha.1
    · exact env_ty ha.2 T ti h
theorem env_eq {P : Program} : ∀ {tab : List (Nat × List TK)}, allQ P tab → ∀ T ti, lkN tab T = some ti → eqTy P T = some ti
  | [], _, T, ti, h => by simp [lkN] at h
  | (k, y) :: r, ha, T, ti, h => by
    simp only [lkN] at h
    split at h
    · rename_i e
      injection h with h; subst h
      rw [← beq_nat e]; exact ha.1
    · exact env_eq ha.2 T ti h

/-- No functions are taken from outside. -/
theorem ext_nil {P : Program} : ExtOk P [] := fun g h args r B hx => by simp [lkN] at hx
theorem ext_cons {P : Program} {k : Nat} {h : List MV → Out} {X : List (Nat × (List MV → Out))} (h1 : ∀ args r B, h args = some (r, B) → npL args = true → Spec P k args r) (h2 : ExtOk P X) : ExtOk P ((k, h) :: X) := by
  intro g h' args r B hx he hn
  unfold lkN at hx
  cases e : Nat.beq k g with
  | true => rw [e] at hx; cases hx; rw [← Nat.eq_of_beq_eq_true e]; exact h1 args r B he hn
  | false => rw [e] at hx; exact h2 g h' args r B hx he hn
end Go.Pv
