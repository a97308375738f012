/- A library of this session: regions, statements, contracts. -/
import Derived.Test.YtoakchnegkmepaaM10
set_option linter.unusedVariables false
set_option linter.unusedSimpArgs false
namespace Go.Pv

/-! ### Values without pointers to boxes -/
mutual
def np : MV → Bool
  | .agg cs => npL cs
  | .tup cs => npL cs
  | .list es => npLL es
  | .fn _ cs => npL cs
  | .cptr cs _ => npL cs
  | .map m => npE m
  | .ifc _ v => np v
  | .ptr _ _ => false
  | _ => true
def npL : List MV → Bool
  | [] => true
  | m :: r => np m && npL r
def npLL : List (List MV) → Bool
  | [] => true
  | e :: r => npL e && npLL r
def npE : List (MKey × MV) → Bool
  | [] => true
  | (_, v) :: r => np v && npE r
end

theorem npL_get : ∀ {cs : List MV}, npL cs = true → ∀ (i : Nat) (c : MV), cs[i]? = some c → np c = true
  | [], _, i, c, hi => by simp at hi
  | m :: r, h, i, c, hi => by
    simp only [npL, Bool.and_eq_true] at h
    cases i with
    | zero => simp at hi; subst hi; exact h.1
    | succ i => exact npL_get h.2 i c (by simpa using hi)
theorem npLL_get : ∀ {es : List (List MV)}, npLL es = true → ∀ (i : Nat) (e : List MV), es[i]? = some e → npL e = true
  | [], _, i, c, hi => by simp at hi
  | m :: r, h, i, c, hi => by
    simp only [npLL, Bool.and_eq_true] at h
    cases i with
    | zero => simp at hi; subst hi; exact h.1
    | succ i => exact npLL_get h.2 i c (by simpa using hi)
theorem npE_get : ∀ {es : List (MKey × MV)}, npE es = true → ∀ (i : Nat) (e : MKey × MV), es[i]? = some e → np e.2 = true
  | [], _, i, c, hi => by simp at hi
  | (k, m) :: r, h, i, c, hi => by
    simp only [npE, Bool.and_eq_true] at h
    cases i with
    | zero => simp at hi; subst hi; exact h.1
    | succ i => exact npE_get h.2 i c (by simpa using hi)

@[simp] theorem npLL_map {α : Type} (f : α → List MV) (l : List α) : npLL (l.map f) = l.all (fun x => npL (f x)) := by
  induction l with
  | nil => rfl
  | cons x r ih => simp [npLL, ih]
@[simp] theorem npL_map {α : Type} (f : α → MV) (l : List α) : npL (l.map f) = l.all (fun x => np (f x)) := by
  induction l with
  | nil => rfl
  | cons x r ih => simp [npL, ih]
@[simp] theorem npLL_append (a b : List (List MV)) : npLL (a ++ b) = (npLL a && npLL b) := by
  induction a with
  | nil => simp [npLL]
  | cons x r ih => simp [npLL, ih, Bool.and_assoc]
@[simp] theorem npE_map {α : Type} (f : α → MKey × MV) (l : List α) : npE (l.map f) = l.all (fun x => np (f x).2) := by
  induction l with
  | nil => rfl
  | cons x r ih => simp [npE, ih]

theorem Rep.np {γ γ' : List Nat} {ω : Own} {w : World} {m : MV} {v : Value} (h : Rep γ ω w m v) (hn : Go.Pv.np m = true) : Rep γ' ω w m v := by
  induction h with
  | bool b => exact .bool b
  | int k n => exact .int k n
  | str s => exact .str s
  | agg cs vs hl _ h1 ih => exact .agg cs vs hl (fun i c v hc hv => ih i c v hc hv (npL_get (by simpa [Go.Pv.np] using hn) i c hc)) h1
  | tup cs vs hl _ ih => exact .tup cs vs hl (fun i c v hc hv => ih i c v hc hv (npL_get (by simpa [Go.Pv.np] using hn) i c hc))
  | list es sz blk o cap us hcap hω hlt hsz hcell _ ih => exact .list es sz blk o cap us hcap hω hlt hsz hcell (fun j e hj i c hi => ih j e hj i c hi (npL_get (npLL_get (by simpa [Go.Pv.np] using hn) j e hj) i c hi))
  | list0 a cap => exact .list0 a cap
  | nil => exact .nil
  | fn f cs vs hl _ ih => exact .fn f cs vs hl (fun i c v hc hv => ih i c v hc hv (npL_get (by simpa [Go.Pv.np] using hn) i c hc))
  | nilfn => exact .nilfn
  | ptr b off blk hb => simp [Go.Pv.np] at hn
  | cptr cs off blk o us hω hlt hcell _ ih => exact .cptr cs off blk o us hω hlt hcell (fun i c hi => ih i c hi (npL_get (by simpa [Go.Pv.np] using hn) i c hi))
  | nilptr => exact .nilptr
  | map m blk es clock hω hb hl hk _ hlt hbn hnd ih => exact .map m blk es clock hω hb hl hk (fun i x e hx he => ih i x e hx he (npE_get (by simpa [Go.Pv.np] using hn) i x hx)) hlt hbn hnd
  | map0 => exact .map0
  | ifc t c v _ ih => exact .ifc t c v (ih (by simpa [Go.Pv.np] using hn))
  | nilifc => exact .nilifc

/-! ### Contracts of functions that leave everything as it was -/
/-- What a function hands back, one item a result: some sz: a row (or map) of its own. -/
abbrev Res := List (Option Nat × MV)

def ResI (γ : List Nat) (ω : Own) (w : World) (x : Option Nat × MV) (v : Value) : Prop :=
  match x.1 with
  | none => Rep γ ω w x.2 v
  | some sz => OwnRep γ ω w .res sz x.2 v

def ResRep (γ : List Nat) (ω : Own) (w : World) (r : Res) (v : Value) : Prop :=
  match r with
  | [x] => ResI γ ω w x v
  | xs => ∃ vs : List Value, v = .tuple vs.toArray ∧ vs.length = xs.length ∧ ∀ (i : Nat) (x : Option Nat × MV) (u : Value), xs[i]? = some x → vs[i]? = some u → ResI γ ω w x u

/-- THE CONTRACT: called with these values the function returns these; all that was there stays. -/
def Spec (P : Program) (f : FuncId) (args : List MV) (r : Res) : Prop :=
  (∀ (as : Array Value) (w : World), (callFunc f as).run P w = .ok (.enter f as) w) ∧ ∀ (γ : List Nat) (ω : Own) (w : World) (vs : List Value), vs.length = args.length → (∀ (i : Nat) (c : MV) (v : Value), args[i]? = some c → vs[i]? = some v → Rep γ ω w c v) →
    (∀ b, w.heap.size ≤ b → ω b = none) → (∀ b, ω b ≠ some .res) →
    Calls P f vs.toArray w fun e w' => ∃ v ω', e = .returned v ∧ Chg (fun _ => False) γ ω w γ ω' w' ∧ (∀ b, w'.heap.size ≤ b → ω' b = none) ∧ (∀ b, b < w.heap.size → ω' b = ω b) ∧
      (∀ b, w.heap.size ≤ b → ω' b = none ∨ ω' b = some .outer ∨ ω' b = some .res) ∧ ResRep γ ω' w' r v

/-! ### A call in a frame -/
def Ct.shared : Ct → Bool
  | .own _ _ => false
  | .al _ => false
  | _ => true

/-- The places whose rows are lent to a call. -/
def lent (st : St) : List Operand → List Place
  | [] => []
  | x :: r => match ownPl st x with
    | some p => p :: lent st r
    | none => lent st r

def flatM : MV → Bool
  | .bool _ | .int _ _ | .str _ | .nil | .nilptr | .nilfn | .nilifc => true
  | .ifc _ (.int _ _) => true
  | _ => false

def flatL : List MV → Bool
  | [] => true
  | m :: r => flatM m && flatL r

def flatV : MV → Bool
  | .agg cs => flatL cs
  | m => flatM m

def flatR : Res → Bool
  | [] => true
  | (none, m) :: r => flatV m && flatR r
  | (some _, m) :: r => false

def resC : Res → Ct
  | [(none, m)] => .sh m
  | [(some sz, m)] => .own sz m
  | xs => .tupc xs

/-- Which function does an operand name, and what has it captured? -/
def fnOf (st : St) : Operand → Option (FuncId × List MV)
  | .func f => some (f, [])
  | .tmp t => match lk st.v t with
    | .sh (.fn f cs) => some (f, cs)
    | _ => none
  | _ => none

/-- A call of a function with a contract: rows may be lent, where what comes back is flat. -/
def callP (P : Program) (st : St) (dst : Option Tmp) (f : Operand) (xs : List Operand) (K : St → Prop) : Prop :=
  match fnOf st f with
  | none => False
  | some (g, cs) => match opvs st xs with
    | none => False
    | some ms => (∃ r, Spec P g (ms ++ cs) r ∧ flatR r = true ∧ K (putO st dst (resC r))) ∨
      (match shvs (retOs st xs) xs with
        | some ms => ∃ r, Spec P g (ms.map MV.top ++ cs) r ∧ K (putO (retOs st xs) dst (resC r))
        | none => False)

theorem flatM_rep {γ γ' : List Nat} {ω ω' : Own} {w w' : World} {m : MV} {v : Value} (hf : flatM m = true) (h : Rep γ ω w m v) : Rep γ' ω' w' m v := by
  cases h with
  | bool b => exact .bool b
  | int k n => exact .int k n
  | str s => exact .str s
  | nil => exact .nil
  | nilptr => exact .nilptr
  | nilfn => exact .nilfn
  | nilifc => exact .nilifc
  | ifc t c v hc =>
    cases hc with
    | int k n => exact .ifc t _ _ (.int k n)
    | _ => simp [flatM] at hf
  | _ => simp [flatM] at hf

theorem flatL_get : ∀ {cs : List MV}, flatL cs = true → ∀ (i : Nat) (c : MV), cs[i]? = some c → flatM c = true
  | [], _, i, c, hi => by simp at hi
  | m :: r, hf, i, c, hi => by
    simp only [flatL, Bool.and_eq_true] at hf
    cases i with
    | zero => simp at hi; subst hi; exact hf.1
    | succ i => exact flatL_get hf.2 i c (by simpa using hi)

theorem flatV_rep {γ γ' : List Nat} {ω ω' : Own} {w w' : World} {m : MV} {v : Value} (hf : flatV m = true) (h : Rep γ ω w m v) : Rep γ' ω' w' m v := by
  cases h with
  | agg cs vs hl hr h1 => exact .agg cs vs hl (fun i c v hc hv => flatM_rep (flatL_get hf i c hc) (hr i c v hc hv)) h1
  | bool b => exact .bool b
  | int k n => exact .int k n
  | str s => exact .str s
  | nil => exact .nil
  | nilptr => exact .nilptr
  | nilfn => exact .nilfn
  | nilifc => exact .nilifc
  | ifc t c v hc => exact flatM_rep hf (.ifc t c v hc)
  | _ => simp [flatV, flatM] at hf

theorem flatR_get : ∀ {r : Res}, flatR r = true → ∀ (i : Nat) (x : Option Nat × MV), r[i]? = some x → x.1 = none ∧ flatV x.2 = true
  | [], _, i, x, hi => by simp at hi
  | (none, m) :: r, hf, i, x, hi => by
    simp only [flatR, Bool.and_eq_true] at hf
    cases i with
    | zero => simp at hi; subst hi; exact ⟨rfl, hf.1⟩
    | succ i => exact flatR_get hf.2 i x (by simpa using hi)
  | (some sz, m) :: r, hf, i, x, hi => by simp [flatR] at hf

/-- What a call hands back, as a slot's content. -/
theorem resC_ok {γ γ' : List Nat} {ω ω' : Own} {w w' : World} {r : Res} {v : Value} (h : ResRep γ ω w r v) {st : St} {tmps : Array Value} {o : Owner}
    (hi : ∀ (i : Nat) (x : Option Nat × MV) (u : Value), r[i]? = some x → ResI γ ω w x u → match x.1 with | none => Rep γ' ω' w' x.2 u | some sz => OwnRep γ' ω' w' o sz x.2 u) : CtRep γ' ω' w' st tmps o (resC r) v := by
  match r, h, hi with
  | [], h, hi =>
    obtain ⟨vs, h1, h2, h3⟩ := h
    exact ⟨vs, h1, h2, fun i c u hc hu => by simp at hc⟩
  | [(none, m)], h, hi => exact hi 0 (none, m) v rfl h
  | [(some sz, m)], h, hi => exact hi 0 (some sz, m) v rfl h
  | x :: y :: q, h, hi =>
    obtain ⟨vs, h1, h2, h3⟩ := h
    have : resC (x :: y :: q) = .tupc (x :: y :: q) := by
      obtain ⟨a, b⟩ := x; cases a <;> rfl
    rw [this]
    exact ⟨vs, h1, h2, fun i c u hc hu => hi i c u hc (h3 i c u hc hu)⟩

/-- One call: with a chosen set of rows lent. -/
theorem call_core {P : Program} {γ : List Nat} {ω : Own} {w : World} {nt : Nat} {st : St} {a : Act} (h : Rel γ ω w nt st a) {g : FuncId} {args : List MV} {r : Res} (hs : Spec P g args r) (us : List Value) (hl : us.length = args.length) (d : Option Tmp) (hd : ∀ t, d = some t → t < nt)
    (lo : Owner → Bool) (hflat : (∃ o, lo o = true) → flatR r = true)
    (hargs : ∀ (i : Nat) (c : MV) (v : Value), args[i]? = some c → us[i]? = some v → Rep γ (fun b => match ω b with | none => none | some o => if lo o then none else some .outer) w c v) :
    Calls P g us.toArray w fun e w' => ∃ v ω', e = .returned v ∧ Chg NotOuter γ ω w γ ω' w' ∧ Rel γ ω' w' nt (putO st d (resC r)) (a.put d v) := by
  let ωc : Own := fun b => match ω b with | none => none | some o => if lo o then none else some .outer
  have hltc : ∀ b, w.heap.size ≤ b → ωc b = none := fun b hb => by simp [ωc, h.lt b hb]
  have hres : ∀ b, ωc b ≠ some .res := by
    intro b
    simp only [ωc]
    split
    · simp
    · split <;> simp
  refine (hs.2 γ ωc w us hl hargs hltc hres).mono ?_
  rintro e w' ⟨v, ω', he, hc, hlt', hold, hnew, hr⟩
  let own : Owner := match d with | some t => .slot t | none => .outer
  let ω2 : Own := fun b => if b < w.heap.size then ω b else if ω' b = some .res then some own else ω' b
  have heap : ∀ b, b < w.heap.size → w'.heap[b]? = w.heap[b]? := by
    intro b hb
    cases hω : ωc b with
    | none => exact (hc.none b hb hω).1
    | some o => exact (hc.keep b o hb hω (fun h => h)).1
  have hc2 : Chg (fun _ => False) γ ω w γ ω2 w' := by
    refine ⟨hc.os, hc.tape, hc.output, hc.size, fun _ _ h => h, fun b hb h0 => ⟨heap b hb, ?_⟩, fun b o hb h0 _ => ⟨heap b hb, ?_⟩⟩
    · simp only [ω2, if_pos hb]; exact h0
    · simp only [ω2, if_pos hb]; exact h0
  have hlt2 : ∀ b, w'.heap.size ≤ b → ω2 b = none := by
    intro b hb
    have hb' : ¬ b < w.heap.size := by have := hc.size; omega
    simp only [ω2, if_neg hb', hlt' b hb]
    simp
  have hR := h.grow hc2 hlt2
  refine ⟨v, ω2, he, hc2.mono (fun _ h => h.elim), hR.putO hd ?_⟩
  intro t ht
  subst ht
  -- what is shared for the callee is shared here, unless it was lent
  have hsh : (∀ o, lo o = false) → ∀ b, ω' b = none → ω2 b = none := by
    intro hno b hb
    simp only [ω2]
    split
    · rename_i hlt
      have h1 : ωc b = none := by rw [← hold b hlt]; exact hb
      simp only [ωc] at h1
      split at h1
      · assumption
      · rename_i o ho; rw [hno o] at h1; simp at h1
    · rw [hb]; simp
  refine resC_ok hr (fun i x u hx hu => ?_)
  obtain ⟨x1, x2⟩ := x
  by_cases hfl : ∃ o, lo o = true
  · obtain ⟨e1, e2⟩ := flatR_get (hflat hfl) i _ hx
    simp only at e1; subst e1
    exact flatV_rep e2 hu
  · have hno : ∀ o, lo o = false := fun o => by
      cases ho : lo o with
      | false => rfl
      | true => exact absurd ⟨o, ho⟩ hfl
    cases x1 with
    | none => exact Rep.relabel (hsh hno) hu
    | some sz =>
      show OwnRep γ ω2 w' (.slot t) sz x2 u
      have hu' : OwnRep γ ω' w' .res sz x2 u := hu
      have hown : ∀ b, ω' b = some .res → ω2 b = some (.slot t) := by
        intro b hb
        simp only [ω2]
        split
        · rename_i hlt
          have h1 : ωc b = some .res := by rw [← hold b hlt]; exact hb
          exact absurd h1 (hres b)
        · first | rfl | (simp only [hb, if_true]; rfl)
      cases hu' with
      | list es _ e2 xs hr2 hcl ho =>
        refine .list sz es u e2 xs hr2 ⟨hcl.len, hcl.wid, hcl.one, fun j e hj i c hi => ?_⟩ (fun b hb => ⟨hown b (ho b hb).1, (ho b hb).2⟩)
        obtain ⟨u', h1, h2⟩ := hcl.rep j e hj i c hi
        exact ⟨u', h1, h2.relabel (hsh hno)⟩
      | map m blk es clock ho hltb hb he =>
        exact .map sz m blk es clock (hown blk ho) hltb hb ⟨he.len, he.key, fun i x e hx hee => (he.val i x e hx hee).relabel (hsh hno), he.born, he.nodup⟩

end Go.Pv
