/- A library of this session: short roads. -/
import Derived.Test.YtoakchnegkmepaaM25
set_option linter.unusedVariables false
set_option linter.unusedSimpArgs false
namespace Go.Pv
section
variable {P : Program} {nt : Nat} {st : St} {Q : PX → St → Prop}

theorem PW.reg (fz : List Nat) {id : Nat} {ops : Array Oper} (h : runP P nt fz ops ops.toList st (fun st' => Q .normal st')) : PW P nt (.region id ops false) st Q := by
  intro γ ω w a R hr hk
  refine wp_region ?_
  have := run_ok ops.toList 0 (by simp) hr h R (fun γ' ω' w' st' a' h1 h2 h3 => hk .normal _ _ _ _ _ h1 h2 h3)
  rw [List.range_eq_range']
  simpa using this

theorem PW.sreg (fz : List Nat) {id : Nat} {ops : Array Oper} {y : Code} (h : ∀ K : St → Prop, (∀ st', PW P nt y st' Q → K st') → runP P nt fz ops ops.toList st K) : PW P nt (.seq (.region id ops false) y) st Q :=
  PW.seq (fun K hK => PW.reg fz (h K hK))

theorem PW.dreg (fz : List Nat) {id : Nat} {ops : Array Oper} (hm : P.follows .mixedOrders = true) (hreg : regOk ops = true) (h : Dr P nt fz ops [] [] st (fun st' => Q .normal st')) : PW P nt (.region id ops true) st Q := by
  intro γ ω w a R hr hk
  refine wp_region_any hm ?_
  have hc : Chg (fun _ => False) γ ω w γ ω { w with drawn := w.drawn + 1 } := ⟨rfl, rfl, rfl, Nat.le_refl _, fun _ _ h => h, fun _ _ h => ⟨rfl, h⟩, fun _ _ _ h _ => ⟨rfl, h⟩⟩
  have hr' : Rel γ ω { w with drawn := w.drawn + 1 } nt st a := hr.grow hc hr.lt
  refine h γ ω _ a [] _ ops.size R ⟨by simp, fun i hi => ?_⟩ (by simp) trivial (by simp) ?_ (hr'.ext rfl (fun s => by simp only [lk_killL]; simp [dss, memN])) (fun γ' ω' w' st' a' h1 h2 h3 => ?_)
  · simp [hi]
  · have hs : (Array.replicate ops.size false).size = ops.size := by simp
    unfold un
    rw [hs]
    exact Nat.le_trans (List.length_filter_le _ _) (by simp)
  · exact hk .normal _ _ _ _ _ ((hc.mono (fun _ h => h.elim)).trans h1) h2 h3

theorem PW.sdraw (fz : List Nat) {id : Nat} {ops : Array Oper} {y : Code} (hm : P.follows .mixedOrders = true) (hreg : regOk ops = true) (h : ∀ K : St → Prop, (∀ st', PW P nt y st' Q → K st') → Dr P nt fz ops [] [] st K) : PW P nt (.seq (.region id ops true) y) st Q :=
  PW.seq (fun K hK => PW.dreg fz hm hreg (h K hK))

theorem PW.condD {t : Nat} {x y : Code} {p : Prop} [Decidable p] (hb : lk st.v t = .sh (.bool (decide p))) (ht : p → PW P nt x st Q) (hf : ¬ p → PW P nt y st Q) : PW P nt (.cond (.tmp t) x y) st Q :=
  PW.cond hb (fun e => ht (of_decide_eq_true e)) (fun e => hf (of_decide_eq_false e))

theorem PW.condN {t : Nat} {x y : Code} {p : Prop} [Decidable p] (hb : lk st.v t = .sh (.bool (!decide p))) (ht : ¬ p → PW P nt x st Q) (hf : p → PW P nt y st Q) : PW P nt (.cond (.tmp t) x y) st Q :=
  PW.cond hb (fun e => ht (by simpa using e)) (fun e => hf (by simpa using e))

theorem PW.condT {t : Nat} {x y : Code} (hb : lk st.v t = .sh (.bool true)) (ht : PW P nt x st Q) : PW P nt (.cond (.tmp t) x y) st Q :=
  PW.cond hb (fun _ => ht) (fun e => absurd e (by simp))

theorem PW.condF {t : Nat} {x y : Code} (hb : lk st.v t = .sh (.bool false)) (hf : PW P nt y st Q) : PW P nt (.cond (.tmp t) x y) st Q :=
  PW.cond hb (fun e => absurd e (by simp)) (fun _ => hf)

/-- A contract may be used where the state says more. -/
theorem PW.to {c : Code} {st' : St} (h : PW P nt c st Q) (e : st' = st) : PW P nt c st' Q := by rw [e]; exact h

end
theorem runP_nil (P : Program) (nt : Nat) (fz : List Nat) (ops : Array Oper) (st : St) (K : St → Prop) : runP P nt fz ops [] st K = K st := rfl
theorem runP_cons (P : Program) (nt : Nat) (fz : List Nat) (ops : Array Oper) (o : Oper) (r : List Oper) (st : St) (K : St → Prop) : runP P nt fz ops (o :: r) st K = gdP P nt fz ops o st (fun st' => runP P nt fz ops r st' K) := rfl
theorem gdP_eq (P : Program) (nt : Nat) (fz : List Nat) (ops : Array Oper) (o : Oper) (st : St) (K : St → Prop) : gdP P nt fz ops o st K = (
  match o.guard with
  | none => opP P nt fz o st K
  | some (j, want) => match (ops[j]?).bind (·.dst) with
    | some d => match lk st.v d with
      | .sh (.bool b) => if b = want then opP P nt fz o st K else dOk o.dst nt ∧ K (putO st o.dst (.sh (.tup [])))
      | .sh (.tup []) => dOk o.dst nt ∧ K (putO st o.dst (.sh (.tup [])))
      | _ => False
    | none => False) := by unfold gdP; rfl
theorem opP_eq (P : Program) (nt : Nat) (fz : List Nat) (o : Oper) (st : St) (K : St → Prop) : opP P nt fz o st K = (
  dOk o.dst nt ∧ (match o.op with
    | .assign x => match o.dst with
      | some d => asgP P st o.type d x K
      | none => False
    | .call c => match c.callee with
      | .value f => calP P st o.dst f c.args.toList K
      | .builtin .append => match o.dst with
        | some d => appP P st d c K
        | none => False
      | _ => pureP P st (.call c) (fun ct => K (putO st o.dst ct))
    | .makeSlice T l c => match o.dst with
      | some d => mkP P st d T l c K
      | none => False
    | .buildSlice T len parts => match o.dst with
      | some d => bsP P st d T len parts.toList K
      | none => False
    | .build T parts => bldP P st o.dst T parts.toList K
    | .box T x => boxP (match o.dst with | some d => memN fz d | none => false) st o.dst x K
    | .alloc T => aloP P (match o.dst with | some d => memN fz d | none => false) st o.dst T K
    | .store T ad x => o.dst = none ∧ stoP P st T ad x K
    | .convert s T x => (match o.dst, opv st x, kdOf P T with
      | some d, some (.str _), .slice _ => strB P st d s T x K
      | _, _, _ => pureP P st (.convert s T x) (fun ct => K (putO st o.dst ct)))
    | op => pureP P st op (fun ct => K (putO st o.dst ct)))) := by unfold opP; rfl
theorem pureP_eq (P : Program) (st : St) (o : Op) (K : Ct → Prop) : pureP P st o K = (
  match o with
  | .move x => movP st x K
  | .binOp op T x y _ => binE P st op T x y K
  | .pick c x y => match opv st c with
    | some (.bool b) => if b = true then (match shv st x with
        | some m => K (.sh m)
        | none => False)
      else (match shv st y with
        | some m => K (.sh m)
        | none => False)
    | _ => False
  | .unOp op _ x => match opv st x with
    | some a => unP op a (fun m => K (.sh m))
    | none => False
  | .convert s d x => match opv st x with
    | some a => convP P s d a (fun m => K (.sh m))
    | none => False
  | .extract x i => extP st x i K
  | .load T x => loadP P st T x K
  | .fieldAddr T x f => faP P st T x f K
  | .field T x f => fieldP P st T x f (fun m => K (.sh m))
  | .indexAddr T x i => iaP P st T x i K
  | .index T x i => idxP P st T x i (fun m => K (.sh m))
  | .slice T x lo hi none => sliceP P st T x lo hi (fun m => K (.sh m))
  | .nilCheck x => ncP st x K
  | .makeFunc (.func f) fs cs => fs.size = 0 ∧ (match shvs st cs.toList with
    | some ms => K (.sh (.fn f ms))
    | none => False)
  | .call c => match c.callee with
    | .builtin .len => match c.args.toList with
      | [x] => match opv st x with
        | some m => lenP P (c.argTypes.getD 0 0) m (fun m => K (.sh m)) ∧ c.argTypes.size ≠ 0
        | none => False
      | _ => False
    | .builtin .min => match opvs st c.args.toList with
      | some ms => mmP false ms (fun m => K (.sh m))
      | none => False
    | .builtin .max => match opvs st c.args.toList with
      | some ms => mmP true ms (fun m => K (.sh m))
      | none => False
    | _ => False
  | _ => False) := by unfold pureP; rfl

end Go.Pv
