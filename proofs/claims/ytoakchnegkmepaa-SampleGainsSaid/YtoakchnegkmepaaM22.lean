/- A library of this session: regions whose order is open. -/
import Derived.Test.YtoakchnegkmepaaM21
import Derived.Orders
set_option linter.unusedVariables false
set_option linter.unusedSimpArgs false
namespace Go.Pv

/-- Operations that only compute. -/
def pureK : Op → Bool
  | .move _ | .binOp .. | .pick .. | .unOp .. | .convert .. | .extract .. | .load .. | .fieldAddr .. | .field .. | .indexAddr .. | .index .. | .slice .. | .nilCheck .. | .makeFunc .. => true
  | .call c => match c.callee with
    | .builtin .len | .builtin .min | .builtin .max => true
    | _ => false
  | _ => false

def killL (ds : List Nat) : List (Nat × Ct) → List (Nat × Ct)
  | [] => []
  | (k, c) :: r => (k, if memN ds k then .dead else c) :: killL ds r

theorem lk_killL (ds : List Nat) (v : List (Nat × Ct)) (s : Nat) : lk (killL ds v) s = if memN ds s then .dead else lk v s := by
  induction v with
  | nil => simp [killL, lk]
  | cons x r ih =>
    obtain ⟨k, c⟩ := x
    by_cases h : k = s
    · subst h; simp [killL, lk]
    · simp only [killL, lk, h, if_false]; exact ih

def isShD : Ct → Bool
  | .sh _ => true
  | .dead => true
  | _ => false

section
variable {P : Program} {γ : List Nat} {ω : Own} {w : World} {nt : Nat} {st st' : St} {a : Act}

/-- st' is st, but what stands in these slots is not known. -/
structure Less (ds : List Nat) (st st' : St) : Prop where
  B : st'.B = st.B
  lk : ∀ s, Go.Pv.lk st'.v s = if memN ds s then .dead else Go.Pv.lk st.v s
  sh : ∀ s, memN ds s = true → isShD (Go.Pv.lk st.v s) = true

theorem Less.at {ds : List Nat} (h : Less ds st st') (p : Place) : st'.at p = st.at p ∨ (isShD (st.at p) = true ∧ st'.at p = .dead) := by
  cases p with
  | slot s =>
    simp only [St.at]
    rw [h.lk]
    cases hm : memN ds s with
    | true => exact .inr ⟨h.sh s hm, by simp⟩
    | false => exact .inl (by simp)
  | cell k o => exact .inl (by simp only [St.at, h.B])

theorem Less.rdc {ds : List Nat} (h : Less ds st st') (c : Ct) : Go.Pv.rdc st' c = Go.Pv.rdc st c := by
  cases c with
  | al p =>
    simp only [Go.Pv.rdc]
    rcases h.at p with e | ⟨e1, e2⟩
    · rw [e]
    · rw [e2]
      cases hc : st.at p <;> simp [hc, isShD] at e1 ⊢
  | _ => rfl

theorem Less.opv {ds : List Nat} (h : Less ds st st') {x : Operand} (hx : ∀ t, x = .tmp t → memN ds t = false) : Go.Pv.opv st' x = Go.Pv.opv st x := by
  cases x with
  | tmp t => simp only [Go.Pv.opv]; rw [h.lk, hx t rfl, h.rdc]; simp
  | _ => rfl

theorem Less.lkx {ds : List Nat} (h : Less ds st st') {t : Nat} (hx : memN ds t = false) : Go.Pv.lk st'.v t = Go.Pv.lk st.v t := by
  rw [h.lk, hx]; simp

theorem Less.shv {ds : List Nat} (h : Less ds st st') {x : Operand} (hx : ∀ t, x = .tmp t → memN ds t = false) : Go.Pv.shv st' x = Go.Pv.shv st x := by
  cases x with
  | tmp t => simp only [Go.Pv.shv]; rw [h.lkx (hx t rfl)]
  | _ => rfl

theorem Less.opvs {ds : List Nat} (h : Less ds st st') : ∀ {xs : List Operand}, (∀ x ∈ xs, ∀ t, x = .tmp t → memN ds t = false) → Go.Pv.opvs st' xs = Go.Pv.opvs st xs
  | [], _ => rfl
  | x :: r, hx => by
    simp only [Go.Pv.opvs]
    rw [h.opv (hx x (by simp)), h.opvs (fun y hy => hx y (by simp [hy]))]

theorem Less.shvs {ds : List Nat} (h : Less ds st st') : ∀ {xs : List Operand}, (∀ x ∈ xs, ∀ t, x = .tmp t → memN ds t = false) → Go.Pv.shvs st' xs = Go.Pv.shvs st xs
  | [], _ => rfl
  | x :: r, hx => by
    simp only [Go.Pv.shvs]
    rw [h.shv (hx x (by simp)), h.shvs (fun y hy => hx y (by simp [hy]))]

theorem Less.own {ds : List Nat} (h : Less ds st st') (p : Place) {β : Type} (f : Nat → MV → β) (z : β) :
    (match st'.at p with | .own sz m => f sz m | _ => z) = (match st.at p with | .own sz m => f sz m | _ => z) := by
  rcases h.at p with e | ⟨e1, e2⟩
  · rw [e]
  · rw [e2]
    cases hc : st.at p <;> simp [hc, isShD] at e1 ⊢

theorem Less.bnd {ds : List Nat} (h : Less ds st st') {x : Option Operand} (n : Nat) (hx : ∀ y, x = some y → ∀ t, y = .tmp t → memN ds t = false) : bndOf st' n x = bndOf st n x := by
  cases x with
  | none => rfl
  | some y => simp only [bndOf]; rw [h.opv (hx y rfl)]

theorem Less.pure {ds : List Nat} (h : Less ds st st') {op : Op} (hk : pureK op = true) (hx : ∀ x ∈ op.operands, ∀ t, x = .tmp t → memN ds t = false) {K : Ct → Prop} (hp : pureP P st op K) : pureP P st' op K := by
  cases op <;> simp only [pureK, Bool.false_eq_true] at hk <;> simp only [Op.operands] at hx
  case move x =>
    simp only [pureP, movP] at hp ⊢
    cases x with
    | tmp t => simp only at hp ⊢; rw [h.lkx (hx (.tmp t) (by simp) t rfl)]; exact hp
    | _ => exact hp
  case pick c x y =>
    simp only [pureP] at hp ⊢
    rw [h.opv (hx c (by simp)), h.shv (hx x (by simp)), h.shv (hx y (by simp))]; exact hp
  case load T x =>
    simp only [pureP, loadP] at hp ⊢
    split at hp
    · exact hp
    · rename_i ti hti
      cases x with
      | tmp t =>
        simp only [h.lkx (hx (.tmp t) (by simp) t rfl), h.B] at hp ⊢
        cases hc : Go.Pv.lk st.v t with
        | eadr p i off =>
          simp only [hc] at hp ⊢
          rcases h.at p with e | ⟨e1, e2⟩
          · rw [e]; exact hp
          · cases hq : st.at p <;> simp [hq, isShD] at e1 hp
        | sh m => cases m <;> simp only [hc] at hp ⊢ <;> exact hp
        | _ => simp only [hc] at hp ⊢ <;> exact hp
      | _ => exact hp
  case nilCheck x =>
    simp only [pureP, ncP] at hp ⊢
    cases x with
    | tmp t => simp only [h.lkx (hx (.tmp t) (by simp) t rfl)] at hp ⊢; exact hp
    | _ => exact hp
  case binOp op T x y ty =>
    simp only [pureP, binE] at hp ⊢
    have hn : nilness st' x = nilness st x := by
      cases x with
      | tmp t =>
        simp only [nilness, h.lkx (hx (.tmp t) (by simp) t rfl)]
        cases hc : Go.Pv.lk st.v t with
        | al p =>
          simp only
          rcases h.at p with e | ⟨e1, e2⟩
          · rw [e]
          · rw [e2]
            cases hq : st.at p <;> simp [hq, isShD] at e1 ⊢
        | sh m => cases m <;> first | rfl | (rename_i es; cases es <;> rfl)
        | own sz m => cases m <;> first | rfl | (rename_i es; cases es <;> rfl)
        | _ => rfl
      | _ => rfl
    rw [hn, h.opv (hx x (by simp)), h.opv (hx y (by simp))]; exact hp
  case unOp op T x =>
    simp only [pureP] at hp ⊢
    rw [h.opv (hx x (by simp))]; exact hp
  case convert s d x =>
    simp only [pureP] at hp ⊢
    rw [h.opv (hx x (by simp))]; exact hp
  case makeFunc fn fs cs =>
    cases fn <;> simp only [pureP] at hp ⊢
    · rw [h.shvs (fun x hxx t e => hx x (by have := Array.mem_toList_iff.1 hxx; simp [this]) t e)]; exact hp
    all_goals exact hp
  case slice T x lo hi mx =>
    cases mx with
    | some m => simp only [pureP] at hp
    | none =>
      simp only [pureP, sliceP] at hp ⊢
      have hlo : ∀ n, bndOf st' n lo = bndOf st n lo := fun n => h.bnd n (fun y hy => hx y (by subst hy; simp))
      have hhi : ∀ n, bndOf st' n hi = bndOf st n hi := fun n => h.bnd n (fun y hy => hx y (by subst hy; cases lo <;> simp))
      cases x with
      | tmp t =>
        simp only [hlo, hhi, h.opv (hx (.tmp t) (by simp)), h.lkx (hx (.tmp t) (by simp) t rfl)]; exact hp
      | const v => simp only [hlo, hhi, h.opv (x := .const v) (fun t e => by cases e)]; exact hp
      | func v => simp only [hlo, hhi, h.opv (x := .func v) (fun t e => by cases e)]; exact hp
      | global v => simp only [hlo, hhi, h.opv (x := .global v) (fun t e => by cases e)]; exact hp
  case fieldAddr T x f =>
    simp only [pureP, faP] at hp ⊢
    cases x with
    | tmp t => simp only [h.lkx (hx (.tmp t) (by simp) t rfl)] at hp ⊢; exact hp
    | _ => exact hp
  case field T x f =>
    simp only [pureP, fieldP] at hp ⊢
    rw [h.opv (hx x (by simp))]; exact hp
  case indexAddr T x i =>
    simp only [pureP, iaP] at hp ⊢
    cases x with
    | tmp t =>
      simp only [h.opv (hx i (by simp)), h.lkx (hx (.tmp t) (by simp) t rfl)] at hp ⊢
      cases hc : Go.Pv.lk st.v t with
      | al p =>
        simp only [hc] at hp ⊢
        rcases h.at p with e | ⟨e1, e2⟩
        · rw [e]; exact hp
        · exfalso
          split at hp
          · split at hp
            · obtain ⟨_, _, hp⟩ := hp
              cases hq : st.at p <;> simp [hq, isShD] at e1 hp
            · exact hp
          · exact hp
      | sh m => cases m <;> simp only [hc] at hp ⊢ <;> exact hp
      | own sz m => cases m <;> simp only [hc] at hp ⊢ <;> exact hp
      | _ => simp only [hc] at hp ⊢ <;> exact hp
    | _ => simp only [h.opv (hx i (by simp))] at hp ⊢; exact hp
  case index T x i =>
    simp only [pureP, idxP] at hp ⊢
    rw [h.opv (hx x (by simp)), h.opv (hx i (by simp))]; exact hp
  case extract x i =>
    simp only [pureP, extP] at hp ⊢
    cases x with
    | tmp t => simp only [h.lkx (hx (.tmp t) (by simp) t rfl)] at hp ⊢; exact hp
    | _ => exact hp
  case call c =>
    obtain ⟨cal, args, tys⟩ := c
    simp only [Call.operands] at hx
    have hargs : ∀ x ∈ args.toList, ∀ t, x = .tmp t → memN ds t = false := fun x hxx t e => hx x (by have := Array.mem_toList_iff.1 hxx; simp [this]) t e
    cases cal with
    | builtin b =>
      cases b <;> simp only [Bool.false_eq_true] at hk <;> simp only [pureP] at hp ⊢
      · cases hl : args.toList with
        | nil => simp only [hl] at hp
        | cons x r =>
          cases r with
          | nil => simp only [hl] at hp ⊢; rw [h.opv (hargs x (by rw [hl]; simp))]; exact hp
          | cons y q => simp only [hl] at hp
      · rw [h.opvs hargs]; exact hp
      · rw [h.opvs hargs]; exact hp
    | _ => simp at hk


/-! ### Acts that differ in some slots -/
/-- x is y, with other values in these slots. -/
structure Ag (ds : List Nat) (x y : Act) : Prop where
  defers : x.defers = y.defers
  size : x.tmps.size = y.tmps.size
  same : ∀ s, memN ds s = false → x.tmps[s]? = y.tmps[s]?

theorem Ag.refl (ds : List Nat) (x : Act) : Ag ds x x := ⟨rfl, rfl, fun _ _ => rfl⟩

theorem Ag.put {ds : List Nat} {x y : Act} (h : Ag ds x y) (d : Option Tmp) (v : Value) : Ag ds (x.put d v) (y.put d v) := by
  cases d with
  | none => exact h
  | some d =>
    refine ⟨h.defers, by simp [Act.put, h.size], fun s hs => ?_⟩
    simp only [Act.put, Array.getElem?_setIfInBounds, h.size]
    rw [h.same s hs]

theorem Ag.getD {ds : List Nat} {x y : Act} (h : Ag ds x y) {s : Nat} (hs : memN ds s = false) : x.tmps.getD s undef = y.tmps.getD s undef := by
  rw [Array.getD_eq_getD_getElem?, Array.getD_eq_getD_getElem?, h.same s hs]

theorem memN_iff {ds : List Nat} {s : Nat} : memN ds s = true ↔ s ∈ ds := by
  induction ds with
  | nil => simp [memN]
  | cons x r ih =>
    by_cases h : x = s
    · simp [memN, h]
    · simp only [memN, h, if_false, ih, List.mem_cons]
      constructor
      · exact .inr
      · rintro (e | e)
        · exact absurd e.symm h
        · exact e

theorem Ag.eval {ds : List Nat} {x y : Act} (h : Ag ds x y) (o : Operand) (ho : ∀ t, o = .tmp t → memN ds t = false) : x.eval o = y.eval o := by
  cases o with
  | tmp t =>
    have := h.getD (ho t rfl)
    simpa [Act.eval] using this
  | _ => rfl

theorem Rel.ext (h : Rel γ ω w nt st a) (hB : st'.B = st.B) (hv : ∀ s, lk st'.v s = lk st.v s) : Rel γ ω w nt st' a := by
  have hat : ∀ p, st'.at p = st.at p := fun p => by cases p <;> simp only [St.at, hB, hv]
  refine ⟨h.size, h.defers, h.lt, by rw [hB]; exact h.boxes, fun s => ?_⟩
  rw [hv]
  have hold := h.slots s
  cases hc : lk st.v s with
  | al p => rw [hc] at hold; obtain ⟨⟨sz, m, h1⟩, h2⟩ := hold; exact ⟨⟨sz, m, (hat p).trans h1⟩, h2⟩
  | eadr p i o => rw [hc] at hold; obtain ⟨sz, es, u, blk, h1, h2⟩ := hold; exact ⟨sz, es, u, blk, (hat p).trans h1, h2⟩
  | sh m => rw [hc] at hold; exact hold
  | own sz m => rw [hc] at hold; exact hold
  | tupc cs => rw [hc] at hold; exact hold
  | siter s' pos => rw [hc] at hold; exact hold
  | dead => trivial

/-- What is not known may differ. -/
theorem Rel.less {ds : List Nat} {a' : Act} (h : Rel γ ω w nt st a') (hl : Less ds st st') (ha : Ag ds a' a) : Rel γ ω w nt st' a := by
  refine ⟨by rw [← ha.size]; exact h.size, by rw [← ha.defers]; exact h.defers, h.lt, by rw [hl.B]; exact h.boxes, fun s => ?_⟩
  rw [hl.lk]
  cases hs : memN ds s with
  | true => exact (trivial : CtRep γ ω w st' a.tmps (.slot s) .dead _)
  | false =>
    have hold := h.slots s
    rw [ha.getD hs] at hold
    have hcur : ∀ p u, (∃ sz m, st.at p = .own sz m) → p.cur γ a'.tmps w u → p.cur γ a.tmps w u ∧ st'.at p = st.at p := by
      intro p u hp hu
      obtain ⟨sz, m, hp⟩ := hp
      have hat : st'.at p = st.at p := by
        rcases hl.at p with e | ⟨e1, _⟩
        · exact e
        · rw [hp] at e1; simp [isShD] at e1
      refine ⟨?_, hat⟩
      cases p with
      | slot s1 =>
        have : memN ds s1 = false := by
          cases hm : memN ds s1 with
          | false => rfl
          | true => have := hl.sh s1 hm; simp only [St.at] at hp; rw [hp] at this; simp [isShD] at this
        simp only [Place.cur] at hu ⊢
        rw [← ha.getD this]; exact hu
      | cell k o => exact hu
    simp only [Bool.false_eq_true, if_false]
    cases hc : lk st.v s with
    | al p =>
      rw [hc] at hold
      obtain ⟨⟨sz, m, h1⟩, h2⟩ := hold
      obtain ⟨h3, h4⟩ := hcur p _ ⟨sz, m, h1⟩ h2
      exact ⟨⟨sz, m, h4.trans h1⟩, h3⟩
    | eadr p i o =>
      rw [hc] at hold
      obtain ⟨sz, es, u, blk, h1, h2, h3, h4⟩ := hold
      obtain ⟨h5, h6⟩ := hcur p _ ⟨sz, _, h1⟩ h3
      exact ⟨sz, es, u, blk, h6.trans h1, h2, h5, h4⟩
    | sh m => rw [hc] at hold; exact hold
    | own sz m => rw [hc] at hold; exact hold
    | tupc cs => rw [hc] at hold; exact hold
    | siter s' pos => rw [hc] at hold; exact hold
    | dead => trivial

theorem less_kill {ds : List Nat} (hsh : ∀ s, memN ds s = true → isShD (lk st.v s) = true) : Less ds st ⟨killL ds st.v, st.B⟩ := ⟨rfl, fun s => lk_killL ds st.v s, hsh⟩

end
end Go.Pv
