/- The library of this work, H texts, part T: parts of a function's code by name; words for laws. -/
import Derived.Test.YtlfbfhgoehndpaaGreatDoorHS
set_option linter.unusedVariables false
set_option linter.unusedSimpArgs false
noncomputable section
namespace Go.Pv

def codeOf (f : Func) : Code := match f.body with
  | some c => c
  | none => .skip

/-- What stands at a place of the code, and what comes behind it. -/
def ctxX (E : Env) (cl : Cl) (nt nB : Nat) (fp : FnP) : Pl → Code → List Nat → List Nat → (PX → St → Out) → Pl × Code × (PX → St → Out)
  | p, c, [], _, K => (p, c, K)
  | .seq p k q, .seq a b, 0 :: r, fs, K => ctxX E cl nt nB fp p a r fs (seqK (fun st' => exec E cl nt nB fp q b (st'.norm nB fp.nk k) K) K)
  | .seq p k q, .seq a b, _ :: r, fs, K => ctxX E cl nt nB fp q b r fs K
  | .cond k p q, .cond _ a b, 0 :: r, fs, K => ctxX E cl nt nB fp p a r fs K
  | .cond k p q, .cond _ a b, _ :: r, fs, K => ctxX E cl nt nB fp q b r fs K
  | .one p, .block id c, _ :: r, fs, K => ctxX E cl nt nB fp p c r fs (blkK id K)
  | .loop k p, .loop c, _ :: r, f :: fs, K => ctxX E cl nt nB fp p c r fs (seqK (fun st' => itr (exec E cl nt nB fp p c) nB fp.nk k f (st'.norm nB fp.nk k) K) K)
  | .frz t p, c, _ :: r, fs, K => ctxX E cl nt nB fp p c r fs K
  | .shr ts p, c, _ :: r, fs, K => ctxX E cl nt nB fp p c r fs K
  | .own l p, c, _ :: r, fs, K => ctxX E cl nt nB fp p c r fs K
  | .cut p, c, _ :: r, fs, K => ctxX E cl nt nB fp p c r fs K
  | p, c, _, _, K => (p, c, K)

def ctxF (E : Env) (cl : Cl) (nB : Nat) (fn : Func) (fp : FnP) (path fs : List Nat) : Pl × Code × (PX → St → Out) :=
  ctxX E cl fn.ntmps nB fp fp.pl (codeOf fn) path fs (finF E nB fn.results.toList fp.sg)
/-- What comes from a place on. -/
def jmp (E : Env) (cl : Cl) (nB : Nat) (fn : Func) (fp : FnP) (path fs : List Nat) (st : St) : Out :=
  exec E cl fn.ntmps nB fp (ctxF E cl nB fn fp path fs).1 (ctxF E cl nB fn fp path fs).2.1 st (ctxF E cl nB fn fp path fs).2.2
def lpP : Pl → Pl
  | .loop _ p => p
  | p => p
def lpK : Pl → List Nat
  | .loop k _ => k
  | _ => []
def lpC : Code → Code
  | .loop c => c
  | c => c
/-- One round of a loop. -/
def rnd (E : Env) (cl : Cl) (nB : Nat) (fn : Func) (fp : FnP) (path fs : List Nat) : St → (PX → St → Out) → Out :=
  exec E cl fn.ntmps nB fp (lpP (ctxF E cl nB fn fp path fs).1) (lpC (ctxF E cl nB fn fp path fs).2.1)
/-- A loop at a place, so many rounds at most. -/
abbrev lps (E : Env) (cl : Cl) (nB : Nat) (fn : Func) (fp : FnP) (path fs : List Nat) (f : Nat) (st : St) : Out :=
  itr (rnd E cl nB fn fp path fs) nB fp.nk (lpK (ctxF E cl nB fn fp path fs).1) f st (ctxF E cl nB fn fp path fs).2.2

/-- A function, unrolled once. -/
theorem evalF_seg {P : Program} {E : Env} {X : XT} {n g : Nat} {args : List MV} {B : Bxs} {fn : Func} {fp : FnP} {v : Nat} (hX : lkN X g = none) (hf : P.funcs[g]? = some fn) (hb : fn.body.isSome = true) (hp : fpV E v g = some fp) (hname : (fn.name == "runtime.NumGoroutine") = false) (hna : Nat.ble args.length fn.ntmps = true) {o : Out}
    (h : jmp E (evalF P E X n) B.length fn fp [] [] ⟨argsV 0 args, B⟩ = o) : evalF P E X (n + 1) v g args B = o := by
  cases hc : fn.body with
  | none => rw [hc] at hb; simp at hb
  | some c =>
    simp only [evalF, hX, hf, hc, hp, hname, hna, Bool.not_false, Bool.and_self, sB]
    unfold jmp ctxF at h
    have e : codeOf fn = c := by unfold codeOf; rw [hc]
    rw [e] at h
    have e2 : ∀ (p : Pl) (c : Code) K, ctxX E (evalF P E X n) fn.ntmps B.length fp p c [] [] K = (p, c, K) := by
      intro p c K; cases p <;> cases c <;> rfl
    rw [e2] at h
    exact h
/-- A function that is told otherwise. -/
theorem evalF_ext {P : Program} {E : Env} {X : XT} {n v g : Nat} {args : List MV} {B : Bxs} {h : Cl → List MV → Bxs → Out} (hX : lkN X g = some h) : evalF P E X (n + 1) v g args B = h (evalF P E X n) args B := by
  simp only [evalF, hX]

/-! ### Short words -/
section
variable {α : Type}
def rI (k : IntKind) (o : Out) (K : Int → Option α) : Option α := callE o fun r B => unXN B (unC r fun m q => dI k m fun x => unN q (K x))
def rB (o : Out) (K : Bool → Option α) : Option α := callE o fun r B => unXN B (unC r fun m q => dB m fun x => unN q (K x))
def rS (o : Out) (K : ByteArray → Option α) : Option α := callE o fun r B => unXN B (unC r fun m q => dS m fun x => unN q (K x))
def rL (o : Out) (K : List (List MV) → Option α) : Option α := callE o fun r B => unXN B (unC r fun m q => dL m fun x => unN q (K x))
def rM (o : Out) (K : List (MKey × MV) → Option α) : Option α := callE o fun r B => unXN B (unC r fun m q => dM m fun x => unN q (K x))
/-- A fresh row of one's own. -/
def rO (sz : Nat) (o : Out) (K : List (List MV) → Option α) : Option α := callE o fun r B => unX B fun o B' => dRw false sz o fun es => unXN B' (unC r fun m q => dRf 0 m (unN q (K es)))
/-- A call that a stream makes: it hands back one value, and the stream. -/
def skI (k : IntKind) (o : Out) (K : List (List MV) → Int → Int → Option α) : Option α := callE o fun r B => unX B fun o' B2 => dBx o' fun c => unC c fun m c2 => dL m fun x => unC c2 fun m2 c3 => dI .i64 m2 fun y => unN c3 (unXN B2 (unC r fun m3 r2 => dI k m3 fun z => unN r2 (K x y z)))
def skB (o : Out) (K : List (List MV) → Int → Bool → Option α) : Option α := callE o fun r B => unX B fun o' B2 => dBx o' fun c => unC c fun m c2 => dL m fun x => unC c2 fun m2 c3 => dI .i64 m2 fun y => unN c3 (unXN B2 (unC r fun m3 r2 => dB m3 fun z => unN r2 (K x y z)))
def skS (o : Out) (K : List (List MV) → Int → ByteArray → Option α) : Option α := callE o fun r B => unX B fun o' B2 => dBx o' fun c => unC c fun m c2 => dL m fun x => unC c2 fun m2 c3 => dI .i64 m2 fun y => unN c3 (unXN B2 (unC r fun m3 r2 => dS m3 fun z => unN r2 (K x y z)))
end

def allT (P : Program) : List (Nat × TI) → Prop
  | [] => True
  | x :: r => tiOf P x.1 = some x.2 ∧ allT P r
def allQ (P : Program) : List (Nat × List TK) → Prop
  | [] => True
  | x :: r => eqTy P x.1 = some x.2 ∧ allQ P r
theorem env_ty {P : Program} : ∀ {tab : List (Nat × TI)}, allT P tab → ∀ T ti, lkN tab T = some ti → tiOf P T = some ti
  | [], _, T, ti, h => by simp [lkN] at h
  | (k, y) :: r, ha, T, ti, h => by
    simp only [lkN] at h
    split at h
    · rename_i e
      injection h with h; subst h
      rw [← beq_nat e]; exact ha.1
    · exact env_ty ha.2 T ti h
theorem env_eq {P : Program} : ∀ {tab : List (Nat × List TK)}, allQ P tab → ∀ T ti, lkN tab T = some ti → eqTy P T = some ti
  | [], _, T, ti, h => by simp [lkN] at h
  | (k, y) :: r, ha, T, ti, h => by
    simp only [lkN] at h
    split at h
    · rename_i e
      injection h with h; subst h
      rw [← beq_nat e]; exact ha.1
    · exact env_eq ha.2 T ti h
end Go.Pv
end
