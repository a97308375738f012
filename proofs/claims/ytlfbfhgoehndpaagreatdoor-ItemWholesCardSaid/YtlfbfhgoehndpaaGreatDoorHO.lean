/- The library of this work, H texts, part O: what is kept; statements; the road to a contract. -/
import Derived.Test.YtlfbfhgoehndpaaGreatDoorHN
set_option linter.unusedVariables false
set_option linter.unusedSimpArgs false
noncomputable section
namespace Go.Pv

/-! ### What changes while a function runs: of the objects only the first keep their numbers -/
structure ChgN (nB : Nat) (γ : List Value) (ω : Own) (w : World) (γ' : List Value) (ω' : Own) (w' : World) : Prop where
  os : w'.os = w.os
  tape : w'.tape = w.tape
  output : w'.output = w.output
  size : w.heap.size ≤ w'.heap.size
  pre : ∀ k v, k < nB → γ[k]? = some v → γ'[k]? = some v
  none : ∀ b, b < w.heap.size → ω b = none → w'.heap[b]? = w.heap[b]? ∧ ω' b = none
  keep : ∀ b, b < w.heap.size → ω b = some .outer → w'.heap[b]? = w.heap[b]? ∧ ω' b = some .outer

section
variable {γ γ1 γ2 γ' : List Value} {ω ω1 ω2 ω' : Own} {w w1 w2 w' : World} {nB : Nat}
theorem Chg.toN (h : Chg NotOuter γ ω w γ' ω' w') : ChgN nB γ ω w γ' ω' w' := ⟨h.os, h.tape, h.output, h.size, fun k v _ hk => h.pre k v hk, h.none, fun b hb h0 => h.keep b .outer hb h0 (fun e => e rfl)⟩
theorem ChgN.trans (h : ChgN nB γ ω w γ1 ω1 w1) (h2 : ChgN nB γ1 ω1 w1 γ2 ω2 w2) : ChgN nB γ ω w γ2 ω2 w2 := by
  refine ⟨h2.os.trans h.os, h2.tape.trans h.tape, h2.output.trans h.output, Nat.le_trans h.size h2.size, fun k v hk hv => h2.pre k v hk (h.pre k v hk hv), fun b hb h0 => ?_, fun b hb h0 => ?_⟩
  · obtain ⟨e1, e2⟩ := h.none b hb h0
    obtain ⟨e3, e4⟩ := h2.none b (Nat.lt_of_lt_of_le hb h.size) e2
    exact ⟨e3.trans e1, e4⟩
  · obtain ⟨e1, e2⟩ := h.keep b hb h0
    obtain ⟨e3, e4⟩ := h2.keep b (Nat.lt_of_lt_of_le hb h.size) e2
    exact ⟨e3.trans e1, e4⟩
theorem ChgN.refl (nB : Nat) (γ : List Value) (ω : Own) (w : World) : ChgN nB γ ω w γ ω w := (Chg.refl NotOuter γ ω w).toN
theorem ChgN.toC (h : ChgN nB γ ω w γ' ω' w') (hn : γ.length ≤ nB) : Chg NotOuter γ ω w γ' ω' w' :=
  ⟨h.os, h.tape, h.output, h.size, fun k v hk => h.pre k v (Nat.lt_of_lt_of_le (List.getElem?_eq_some_iff.1 hk).1 hn) hk, h.none, fun b o hb h0 hno => by
    have : o = .outer := Classical.byContradiction (fun e => hno e)
    subst this; exact h.keep b hb h0⟩
end

/-! ### Other numbers for the objects -/
def pickB (π : Ren) (B : Bxs) : List Nat → Bxs
  | [] => []
  | k :: r => (match B[k]? with
    | some (some o) => some (renO π o)
    | _ => none) :: pickB π B r
def plainL (B : Bxs) : List Nat → Bool
  | [] => true
  | k :: r => (match B[k]? with
    | some (some o) => plainO o
    | _ => true) && plainL B r
def plainB : Bxs → Bool
  | [] => true
  | some o :: r => plainO o && plainB r
  | none :: r => plainB r

theorem pickB_get {π : Ren} {B : Bxs} : ∀ {ids : List Nat} {j : Nat} {o : Ob}, (pickB π B ids)[j]? = some (some o) → ∃ k o', ids[j]? = some k ∧ B[k]? = some (some o') ∧ o = renO π o'
  | [], j, o, h => by simp [pickB] at h
  | k :: r, j, o, h => by
    cases j with
    | zero =>
      simp only [pickB, List.getElem?_cons_zero, Option.some.injEq] at h
      split at h
      · rename_i o' ho
        injection h with h
        exact ⟨k, o', rfl, ho, h.symm⟩
      · exact absurd h (by simp)
    | succ j => exact pickB_get (ids := r) (by simpa [pickB] using h)
theorem pickB_len {π : Ren} {B : Bxs} : ∀ {ids : List Nat}, (pickB π B ids).length = ids.length
  | [] => rfl
  | k :: r => by simp [pickB, pickB_len (ids := r)]
theorem plainL_get {B : Bxs} : ∀ {ids : List Nat}, plainL B ids = true → ∀ k ∈ ids, ∀ o, B[k]? = some (some o) → plainO o = true
  | [], _, k, hk, o, ho => by simp at hk
  | x :: r, h, k, hk, o, ho => by
    simp only [plainL, Bool.and_eq_true] at h
    rcases List.mem_cons.1 hk with rfl | hk
    · have := h.1; rw [ho] at this; exact this
    · exact plainL_get h.2 k hk o ho
theorem plainB_get : ∀ {B : Bxs}, plainB B = true → ∀ o, some o ∈ B → plainO o = true
  | [], _, o, ho => by simp at ho
  | some y :: r, h, o, ho => by
    simp only [plainB, Bool.and_eq_true] at h
    rcases List.mem_cons.1 ho with e | ho
    · injection e with e; subst e; exact h.1
    · exact plainB_get h.2 o ho
  | none :: r, h, o, ho => by
    rcases List.mem_cons.1 ho with e | ho
    · exact absurd e (by simp)
    · exact plainB_get (show plainB r = true from h) o ho

theorem numI_some : ∀ {l : List Nat} {i k : Nat}, k ∈ l → ∃ j, lkN (numI i l) k = some j
  | [], i, k, hm => by simp at hm
  | x :: r, i, k, hm => by
    simp only [numI, lkN]
    split
    · exact ⟨i, rfl⟩
    · rename_i hb
      rcases List.mem_cons.1 hm with rfl | hm
      · simp at hb
      · exact numI_some hm

/-- The objects under other numbers. -/
theorem renum {γ : List Value} {ω : Own} {w : World} {B : Bxs} (hobj : Objs γ ω w B) {ids : List Nat} (hnd : ids.Nodup) (hpl : plainL B ids = true) {nB : Nat} (hpre : ∀ k, k < nB → ids[k]? = some k) (hlt : ∀ b, w.heap.size ≤ b → ω b = none) :
    ∃ γ' ω', ChgN nB γ ω w γ' ω' w ∧ (∀ b, w.heap.size ≤ b → ω' b = none) ∧ (∀ b, ω b = none → ω' b = none) ∧ γ'.length = (pickB (numI 0 ids) B ids).length ∧ (∀ b k p, ω' b = some (.ob k p) → k < (pickB (numI 0 ids) B ids).length) ∧ Objs γ' ω' w (pickB (numI 0 ids) B ids) ∧
      (∀ k k' v, lkN (numI 0 ids) k = some k' → γ[k]? = some v → γ'[k']? = some v) := by
  have hsome : ∀ k j, ids[j]? = some k → lkN (numI 0 ids) k = some j := by
    intro k j hj
    obtain ⟨j', hj'⟩ := numI_some (i := 0) (List.mem_of_getElem? hj)
    obtain ⟨_, h2⟩ := numI_get hj'
    rw [nodup_idx hnd hj (by simpa using h2)]; exact hj'
  let γ' : List Value := ids.map fun k => γ.getD k undef
  let ω' : Own := fun b => match ω b with
    | some (.ob k p) => (match lkN (numI 0 ids) k with
      | some j => some (.ob j p)
      | none => some .outer)
    | x => x
  have hγ : ∀ (j k : Nat) (v : Value), ids[j]? = some k → γ[k]? = some v → γ'[j]? = some v := by
    intro j k v hj hk
    simp only [γ', List.getElem?_map, hj, Option.map_some]
    simp [hk]
  have hn : ∀ b, ω b = none → ω' b = none := fun b hb => by simp [ω', hb]
  have hπ : ∀ k k' v, lkN (numI 0 ids) k = some k' → γ[k]? = some v → γ'[k']? = some v := by
    intro k k' v hk hv
    obtain ⟨_, h2⟩ := numI_get hk
    exact hγ k' k v (by simpa using h2) hv
  refine ⟨γ', ω', ⟨rfl, rfl, rfl, Nat.le_refl _, fun k v hk hv => hγ k k v (hpre k hk) hv, fun b _ h0 => ⟨rfl, hn b h0⟩, fun b _ h0 => ⟨rfl, by simp [ω', h0]⟩⟩, fun b hb => hn b (hlt b hb), hn, by simp [γ', pickB_len], fun b k p hb => ?_, fun j o hj => ?_, hπ⟩
  · rw [pickB_len]
    simp only [ω'] at hb
    split at hb
    · split at hb
      · rename_i j hj
        injection hb with hb; injection hb with hb _; subst hb
        obtain ⟨_, h2⟩ := numI_get hj
        simpa using (List.getElem?_eq_some_iff.1 h2).1
      · simp at hb
    · rename_i hno; exact absurd hb (by intro e; exact hno k p e)
  · obtain ⟨k, o', h1, h2, h3⟩ := pickB_get hj
    subst h3
    obtain ⟨hd, r1, r2⟩ := hobj k o' h2
    exact ⟨hd, hγ j k hd h1 r1, r2.ren (plainL_get hpl k (List.mem_of_getElem? h1) o' h2) hπ hn (fun p b hb => by simp [ω', hb, hsome k j h1])⟩

theorem reach_pre : ∀ (n : Nat) (B : Bxs) (acc l : List Nat), acc.Nodup → (reach n B acc l).Nodup ∧ ∃ t, reach n B acc l = acc ++ t
  | 0, B, acc, l, h => by simp only [reach]; exact ⟨h, [], by simp⟩
  | n + 1, B, acc, [], h => by simp only [reach]; exact ⟨h, [], by simp⟩
  | n + 1, B, acc, k :: r, h => by
    simp only [reach]
    split
    · exact reach_pre n B acc r h
    · rename_i hk
      split
      · rename_i o ho
        have hk' : k ∉ acc := fun hm => by rw [memN_iff.2 hm] at hk; simp at hk
        obtain ⟨g1, t, g2⟩ := reach_pre n B (acc ++ [k]) (r ++ idsO o) (by
          rw [List.nodup_append]
          refine ⟨h, by simp, fun a ha b hb => ?_⟩
          simp at hb; subst hb; intro e; subst e; exact hk' ha)
        exact ⟨g1, [k] ++ t, by rw [g2]; simp⟩
      · exact reach_pre n B acc r h

/-! ### What is kept -/
def eqNL : List Nat → List Nat → Bool
  | [], [] => true
  | a :: r, b :: q => Nat.beq a b && eqNL r q
  | _, _ => false
theorem eqNL_eq : ∀ {a b : List Nat}, eqNL a b = true → a = b
  | [], [], _ => rfl
  | [], _ :: _, h => by simp [eqNL] at h
  | _ :: _, [], h => by simp [eqNL] at h
  | a :: r, b :: q, h => by
    simp only [eqNL, Bool.and_eq_true] at h
    rw [beq_nat h.1, eqNL_eq h.2]

def keepV (kp : List Nat) (v : List (Nat × MV)) : List (Nat × MV) := match kp with
  | [] => []
  | s :: r => (s, lk v s) :: keepV r v
def renV (π : Ren) : List (Nat × MV) → List (Nat × MV)
  | [] => []
  | (s, m) :: r => (s, ren π m) :: renV π r
/-- nk: the slots that hold functions which come from outside. -/
def idsV (nk : List Nat) : List (Nat × MV) → List Nat
  | [] => []
  | (s, m) :: r => match memN nk s with
    | true => idsV nk r
    | false => idsM m ++ idsV nk r
def idsB : Bxs → List Nat
  | [] => []
  | some o :: r => idsO o ++ idsB r
  | none :: r => idsB r
def foldT : Nat → St → Nat → St
  | 0, st, _ => st
  | n + 1, st, k => match foldF st k some with
    | some st' => foldT n st' k
    | none => st
def foldAll : Nat → St → St
  | 0, st => st
  | k + 1, st => foldAll k (foldT 6 st k)
def rngN : Nat → List Nat
  | 0 => []
  | n + 1 => rngN n ++ [n]
def gcI (ids : List Nat) (st : St) : St := match eqNL ids (rngN st.B.length) with
  | true => st
  | false => match plainL st.B ids with
    | true => ⟨renV (numI 0 ids) st.v, pickB (numI 0 ids) st.B ids⟩
    | false => st
def gcS (nB : Nat) (nk : List Nat) (st : St) : St := gcI (reach 400 st.B (rngN nB) (idsV nk st.v ++ idsB (st.B.take nB))) st
def keepS (kp : List Nat) (st : St) : St := ⟨keepV kp st.v, st.B⟩
/-- At a join: these slots; no cell is opened; the objects in their order. -/
def St.norm (nB : Nat) (nk kp : List Nat) (st : St) : St := match st.B with
  | [] => ⟨keepV kp st.v, []⟩
  | _ :: _ => gcS nB nk (keepS kp (foldAll st.B.length st))

theorem lk_keepV (v : List (Nat × MV)) : ∀ (kp : List Nat) (s : Nat), lk (keepV kp v) s = if memN kp s then lk v s else .gone
  | [], s => by simp [keepV, lk, memN]
  | k :: r, s => by
    simp only [keepV, lk, memN]
    by_cases e : k = s
    · subst e; simp
    · have h2 : Nat.beq k s = false := by
        cases hb : Nat.beq k s with
        | false => rfl
        | true => exact absurd (Nat.eq_of_beq_eq_true hb) e
      simp only [h2, lk_keepV v r s, if_neg e]
theorem lk_renV (π : Ren) : ∀ (v : List (Nat × MV)) (s : Nat), lk (renV π v) s = ren π (lk v s)
  | [], s => by simp [renV, lk, ren]
  | (k, m) :: r, s => by
    simp only [renV, lk]
    split
    · rfl
    · exact lk_renV π r s
theorem rngN_get : ∀ {n k : Nat}, k < n → (rngN n)[k]? = some k
  | 0, k, h => by omega
  | n + 1, k, h => by
    have hl : ∀ n, (rngN n).length = n := by
      intro n; induction n with
      | zero => rfl
      | succ n ih => simp [rngN, ih]
    simp only [rngN]
    by_cases e : k = n
    · subst e; rw [List.getElem?_append_right (by rw [hl]; omega)]; simp [hl]
    · rw [List.getElem?_append_left (by rw [hl]; omega)]; exact rngN_get (by omega)
theorem rngN_nodup (n : Nat) : (rngN n).Nodup := by
  induction n with
  | zero => exact List.nodup_nil
  | succ n ih =>
    simp only [rngN]
    rw [List.nodup_append]
    refine ⟨ih, by simp, fun a ha b hb => ?_⟩
    simp at hb; subst hb
    have : ∀ (n a : Nat), a ∈ rngN n → a < n := by
      intro n
      induction n with
      | zero => intro a ha; simp [rngN] at ha
      | succ n ih => intro a ha; simp [rngN] at ha; rcases ha with ha | ha
                     · exact Nat.lt_succ_of_lt (ih a ha)
                     · omega
    have := this b a ha
    omega

section
variable {γ γ' : List Value} {ω ω' : Own} {w w' : World} {nt nB : Nat} {st st' : St} {a : Act}

theorem Rel.foldT : ∀ (n : Nat) (k : Nat) {ω : Own} {st : St}, Rel γ ω w nt st a → ∃ ω', Chg NotOuter γ ω w γ ω' w ∧ Rel γ ω' w nt (Go.Pv.foldT n st k) a
  | 0, k, ω, st, h => ⟨ω, Chg.refl _ _ _ _, h⟩
  | n + 1, k, ω, st, h => by
    simp only [Go.Pv.foldT]
    split
    · rename_i st1 h1
      obtain ⟨ω1, st2, g1, g2, g3⟩ := fold_ok h h1
      injection g3 with g3; subst g3
      obtain ⟨ω2, g4, g5⟩ := Rel.foldT n k g2
      exact ⟨ω2, (ob_notouter g1).trans g4, g5⟩
    · exact ⟨ω, Chg.refl _ _ _ _, h⟩
theorem Rel.foldAll : ∀ (k : Nat) {ω : Own} {st : St}, Rel γ ω w nt st a → ∃ ω', Chg NotOuter γ ω w γ ω' w ∧ Rel γ ω' w nt (Go.Pv.foldAll k st) a
  | 0, ω, st, h => ⟨ω, Chg.refl _ _ _ _, h⟩
  | k + 1, ω, st, h => by
    obtain ⟨ω1, g1, g2⟩ := h.foldT 6 k
    obtain ⟨ω2, g3, g4⟩ := Rel.foldAll k g2
    exact ⟨ω2, g1.trans g3, g4⟩
theorem Rel.keepS (h : Rel γ ω w nt st a) (kp : List Nat) : Rel γ ω w nt (Go.Pv.keepS kp st) a := by
  refine ⟨h.size, h.defers, h.lt, h.gl, h.len, fun s => ?_, h.objs⟩
  show Rep γ ω w (lk (keepV kp st.v) s) _
  rw [lk_keepV]
  split
  · exact h.slots s
  · exact .gone _
theorem Rel.gcI (h : Rel γ ω w nt st a) {ids : List Nat} (hnd : ids.Nodup) (hpre : ∀ k, k < nB → ids[k]? = some k) : ∃ γ' ω', ChgN nB γ ω w γ' ω' w ∧ Rel γ' ω' w nt (Go.Pv.gcI ids st) a := by
  unfold Go.Pv.gcI
  split
  · exact ⟨γ, ω, .refl _ _ _ _, h⟩
  · split
    · rename_i hpl
      obtain ⟨γ', ω', h1, h2, h3, h4, _, h5, h6⟩ := renum (B := st.B) h.objs hnd hpl hpre h.lt
      refine ⟨γ', ω', h1, h.size, h.defers, h2, h.gl.keeps (γ := γ) (γ' := γ) ⟨fun _ _ h => h, Nat.le_refl _, fun b _ h0 => ⟨rfl, h3 b h0⟩⟩, h4, fun s => ?_, h5⟩
      show Rep γ' ω' w (lk (renV _ st.v) s) _
      rw [lk_renV]
      have hk : Keeps γ ω w γ ω' w := ⟨fun _ _ h => h, Nat.le_refl _, fun b _ h0 => ⟨rfl, h3 b h0⟩⟩
      exact ((h.slots s).keeps hk).ren h6
    · exact ⟨γ, ω, .refl _ _ _ _, h⟩
theorem Rel.gcS (h : Rel γ ω w nt st a) (nB : Nat) (nk : List Nat) : ∃ γ' ω', ChgN nB γ ω w γ' ω' w ∧ Rel γ' ω' w nt (Go.Pv.gcS nB nk st) a := by
  obtain ⟨h1, t, h2⟩ := reach_pre 400 st.B (rngN nB) (idsV nk st.v ++ idsB (st.B.take nB)) (rngN_nodup nB)
  refine h.gcI h1 (fun k hk => ?_)
  rw [h2, List.getElem?_append_left (List.getElem?_eq_some_iff.1 (rngN_get hk)).1]
  exact rngN_get hk
theorem Rel.norm (h : Rel γ ω w nt st a) (nB : Nat) (nk kp : List Nat) : ∃ γ' ω', ChgN nB γ ω w γ' ω' w ∧ Rel γ' ω' w nt (st.norm nB nk kp) a := by
  unfold St.norm
  split
  · rename_i hB
    have := h.keepS kp
    unfold Go.Pv.keepS at this
    rw [hB] at this
    exact ⟨γ, ω, .refl _ _ _ _, this⟩
  · obtain ⟨ω1, g1, g2⟩ := h.foldAll st.B.length
    obtain ⟨γ2, ω2, g3, g4⟩ := (g2.keepS kp).gcS nB nk
    exact ⟨γ2, ω2, g1.toN.trans g3, g4⟩
end

/-! ### Statements -/
inductive PX where
  | normal
  | exit (id : Nat)
  | ret

def PX.toExit : PX → Exit
  | .normal => .normal
  | .exit id => .exit id
  | .ret => .ret

/-- From these contents the code comes to Q. -/
def PW (P : Program) (nt nB : Nat) (c : Code) (st : St) (Q : PX → St → Prop) : Prop :=
  ∀ (γ : List Value) (ω : Own) (w : World) (a : Act) (R : Exit → Act → World → Prop), Rel γ ω w nt st a →
    (∀ e γ' ω' w' st' a', ChgN nB γ ω w γ' ω' w' → Rel γ' ω' w' nt st' a' → Q e st' → R (PX.toExit e) a' w') → c.wp P R a w

def thenQ (K : St → Prop) (Q : PX → St → Prop) : PX → St → Prop
  | .normal, st => K st
  | e, st => Q e st

def blkQ (id : Nat) (Q : PX → St → Prop) : PX → St → Prop
  | .exit id', st => if id' = id then Q .normal st else Q (.exit id') st
  | e, st => Q e st

section
variable {P : Program} {nt nB : Nat} {st : St} {Q : PX → St → Prop}

theorem PW.mono {c : Code} {Q' : PX → St → Prop} (h : PW P nt nB c st Q) (hq : ∀ e st, Q e st → Q' e st) : PW P nt nB c st Q' :=
  fun γ ω w a R hr hk => h γ ω w a R hr (fun e γ' ω' w' st' a' h1 h2 h3 => hk e γ' ω' w' st' a' h1 h2 (hq _ _ h3))

theorem PW.skip (h : Q .normal st) : PW P nt nB .skip st Q := fun γ ω w a R hr hk => wp_skip (hk .normal _ _ _ _ _ (.refl _ _ _ _) hr h)
theorem PW.label {l : Nat} (h : Q .normal st) : PW P nt nB (.label l) st Q := fun γ ω w a R hr hk => wp_label (hk .normal _ _ _ _ _ (.refl _ _ _ _) hr h)
theorem PW.exit {id : Nat} (h : Q (.exit id) st) : PW P nt nB (.exit id) st Q := fun γ ω w a R hr hk => wp_exit (hk (.exit id) _ _ _ _ _ (.refl _ _ _ _) hr h)
theorem PW.ret (h : Q .ret st) : PW P nt nB .ret st Q := fun γ ω w a R hr hk => wp_ret (hk .ret _ _ _ _ _ (.refl _ _ _ _) hr h)

theorem PW.seq {x y : Code} (h : ∀ K : St → Prop, (∀ st, PW P nt nB y st Q → K st) → PW P nt nB x st (thenQ K Q)) : PW P nt nB (.seq x y) st Q := by
  intro γ ω w a R hr hk
  refine wp_seq (h (fun st => PW P nt nB y st Q) (fun _ h => h) γ ω w a _ hr (fun e γ' ω' w' st' a' h1 h2 h3 => ?_))
  cases e with
  | normal => exact h3 γ' ω' w' a' R h2 (fun e γ2 ω2 w2 st2 a2 g1 g2 g3 => hk e _ _ _ _ _ (h1.trans g1) g2 g3)
  | exit id => exact hk (.exit id) _ _ _ _ _ h1 h2 h3
  | ret => exact hk .ret _ _ _ _ _ h1 h2 h3

theorem PW.cond {t : Nat} {x y : Code} {b : Bool} (hb : lk st.v t = .bool b) (ht : b = true → PW P nt nB x st Q) (hf : b = false → PW P nt nB y st Q) : PW P nt nB (.cond (.tmp t) x y) st Q := by
  intro γ ω w a R hr hk
  have hr' : Rep γ ω w (.bool b) (a.eval (.tmp t)) := hr.slot t hb
  refine wp_cond_split (Val.bool (.inl hr')) (fun e => ht e γ ω w a R hr hk) (fun e => hf e γ ω w a R hr hk)

theorem PW.block {id : Nat} {c : Code} (h : PW P nt nB c st (blkQ id Q)) : PW P nt nB (.block id c) st Q := by
  intro γ ω w a R hr hk
  refine wp_block (h γ ω w a _ hr (fun e γ' ω' w' st' a' h1 h2 h3 => ?_))
  cases e with
  | normal => exact hk .normal _ _ _ _ _ h1 h2 h3
  | ret => exact hk .ret _ _ _ _ _ h1 h2 h3
  | exit id' =>
    simp only [PX.toExit, Exit.inBlock]
    simp only [blkQ] at h3
    split at h3
    · rename_i e; rw [if_pos e]; exact hk .normal _ _ _ _ _ h1 h2 h3
    · rename_i e; rw [if_neg e]; exact hk (.exit id') _ _ _ _ _ h1 h2 h3

/-- From what is known one may go to this. -/
def Wk (nB : Nat) (st st' : St) : Prop := ∀ (γ : List Value) (ω : Own) (w : World) (nt : Nat) (a : Act), Rel γ ω w nt st a → ∃ γ' ω', ChgN nB γ ω w γ' ω' w ∧ Rel γ' ω' w nt st' a
theorem Wk.refl (st : St) : Wk nB st st := fun γ ω w nt a h => ⟨γ, ω, .refl _ _ _ _, h⟩
theorem Wk.norm (st : St) (nk kp : List Nat) : Wk nB st (st.norm nB nk kp) := fun γ ω w nt a h => h.norm nB nk kp
theorem PW.wk {c : Code} {st' : St} (hw : Wk nB st st') (h : PW P nt nB c st' Q) : PW P nt nB c st Q := by
  intro γ ω w a R hr hk
  obtain ⟨γ1, ω1, h1, h2⟩ := hw γ ω w nt a hr
  exact h γ1 ω1 w a R h2 (fun e γ' ω' w' st' a' g1 g2 g3 => hk e _ _ _ _ _ (h1.trans g1) g2 g3)

/-- A loop: I with a ghost that goes down. -/
theorem PW.loop {σ : Type} (I : σ → St → Prop) (μ : σ → Nat) {c : Code} (s0 : σ) (h0 : I s0 st)
    (round : ∀ s st, I s st → PW P nt nB c st (thenQ (fun st' => ∃ s', I s' st' ∧ μ s' < μ s) Q)) : PW P nt nB (.loop c) st Q := by
  intro γ ω w a R hr hk b k cs
  have key : ∀ (n : Nat) (s : σ) (st : St) (γ' : List Value) (ω' : Own) (w' : World) (a : Act), μ s = n → I s st → ChgN nB γ ω w γ' ω' w' → Rel γ' ω' w' nt st a →
      ∃ e a' w'', R e a' w'' ∧ Arrives P (lone (b.at a (.code c :: .inLoop c :: k)) cs w') b k cs e a' w'' := by
    intro n
    induction n using Nat.strongRecOn with
    | _ n ih =>
      intro s st γ' ω' w' a hn hI hc hr'
      have hrd := round s st hI γ' ω' w' a (fun e a' w'' => (∃ γ2 ω2 st2 s', e = .normal ∧ ChgN nB γ ω w γ2 ω2 w'' ∧ Rel γ2 ω2 w'' nt st2 a' ∧ I s' st2 ∧ μ s' < μ s) ∨ (e ≠ .normal ∧ R e a' w'')) hr'
        (fun e γ2 ω2 w2 st2 a2 g1 g2 g3 => by
          cases e with
          | normal => obtain ⟨s', h1, h2⟩ := g3; exact .inl ⟨γ2, ω2, st2, s', rfl, hc.trans g1, g2, h1, h2⟩
          | exit id => exact .inr ⟨by simp [PX.toExit], hk (.exit id) _ _ _ _ _ (hc.trans g1) g2 g3⟩
          | ret => exact .inr ⟨by simp [PX.toExit], hk .ret _ _ _ _ _ (hc.trans g1) g2 g3⟩)
      obtain ⟨e, a₁, w₁, hq, harr⟩ := hrd b (.inLoop c :: k) cs
      rcases hq with ⟨γ2, ω2, st2, s', rfl, hc2, hr2, hI2, hlt⟩ | ⟨hne, hq⟩
      · obtain ⟨e₂, a₂, w₂, hq₂, harr₂⟩ := ih (μ s') (hn ▸ hlt) s' st2 γ2 ω2 w₁ a₁ rfl hI2 hc2 hr2
        exact ⟨e₂, a₂, w₂, hq₂, .of_steps (Steps.trans harr (.one step_inLoop)) harr₂⟩
      · exact ⟨e, a₁, w₁, hq, .pass (x := .inLoop c) rfl (fun _ _ => .inl hne) harr⟩
  obtain ⟨e, a', w', hq, harr⟩ := key _ s0 st γ ω w a rfl h0 (.refl _ _ _ _) hr
  exact ⟨e, a', w', hq, .of_steps (.one step_loop) harr⟩
end

/-! ### The road to a contract -/
def argsV : Nat → List MV → List (Nat × MV)
  | _, [] => []
  | i, m :: r => (i, m) :: argsV (i + 1) r

theorem lk_argsV : ∀ (ms : List MV) (i s : Nat), lk (argsV i ms) s = if i ≤ s then (match ms[s - i]? with | some m => m | none => .gone) else .gone
  | [], i, s => by simp [argsV, lk]
  | m :: r, i, s => by
    simp only [argsV, lk]
    by_cases h : i = s
    · subst h; simp
    · rw [if_neg h, lk_argsV r (i + 1) s]
      by_cases h1 : i ≤ s
      · rw [if_pos h1, if_pos (by omega), show s - i = (s - (i + 1)) + 1 from by omega]; rfl
      · rw [if_neg h1, if_neg (by omega)]

/-- The value of a result's variable. -/
def rvS (tmps : Array Value) : ResultVar → Sem Value
  | .tmp t => pure (tmps.getD t undef)
  | .cell c t => do loadVar t (← asAddr (tmps.getD c undef))

theorem results_run {P : Program} {w : World} {fn : Func} {tmps : Array Value} {vs : List Value} (h : (fn.results.toList.mapM (rvS tmps)).run P w = .ok vs w) : ∃ v, (results fn tmps).run P w = .ok v w ∧ (∀ u, vs = [u] → v = u) ∧ (vs.length ≠ 1 → v = .tuple vs.toArray) := by
  have e : results fn tmps = (do let x ← List.toArray <$> fn.results.toList.mapM (rvS tmps); pure (if h : x.size = 1 then x[0] else .tuple x)) := by
    unfold results
    rw [← Array.mapM_eq_mapM_toList]
    congr 1
  rw [e]
  refine ⟨if h : vs.toArray.size = 1 then vs.toArray[0] else .tuple vs.toArray, ?_, ?_, ?_⟩
  · simp only [Sem.run_bind, Sem.run_map, h, Result.andThen_ok, Sem.run_pure]
  · intro u hu; subst hu; rfl
  · intro hu; rw [dif_neg (by simpa using hu)]

/-- Results as they stand. -/
def rawR (E : Env) (st : St) : List ResultVar → Option Res
  | [] => some []
  | .tmp s :: r => match rawR E st r with
    | some l => some (lk st.v s :: l)
    | none => none
  | .cell s T :: r => match loadF E st T (.tmp s) some with
    | some m => match rawR E st r with
      | some l => some (m :: l)
      | none => none
    | none => none

theorem raw_ok {E : Env} {P : Program} (hE : E.Ok P) {γ : List Value} {ω : Own} {w : World} {nt : Nat} {st : St} {a : Act} (h : Rel γ ω w nt st a) : ∀ {rs : List ResultVar} {r : Res}, rawR E st rs = some r →
    ∃ vs : List Value, vs.length = r.length ∧ (rs.mapM (rvS a.tmps)).run P w = .ok vs w ∧ ∀ (i : Nat) (c : MV) (u : Value), r[i]? = some c → vs[i]? = some u → Rep γ ω w c u
  | [], r, hx => by
    simp [rawR] at hx; subst hx
    exact ⟨[], rfl, rfl, by simp⟩
  | .tmp s :: rs, r, hx => by
    simp only [rawR] at hx
    split at hx
    · rename_i l hl
      injection hx with hx; subst hx
      obtain ⟨vs, g1, g2, g3⟩ := raw_ok hE h hl
      refine ⟨a.tmps.getD s undef :: vs, by simp [g1], ?_, fun i y u hy hu => ?_⟩
      · rw [List.mapM_cons]
        simp only [rvS, Sem.run_bind, Sem.run_pure, Result.andThen_ok, g2]
      · cases i with
        | zero => simp only [List.getElem?_cons_zero, Option.some.injEq] at hy hu; subst hy; subst hu; exact h.slots s
        | succ i => exact g3 i y u (by simpa using hy) (by simpa using hu)
    · exact absurd hx (by simp)
  | .cell s T :: rs, r, hx => by
    simp only [rawR] at hx
    split at hx
    · rename_i m hm
      split at hx
      · rename_i l hl
        injection hx with hx; subst hx
        obtain ⟨vs, g1, g2, g3⟩ := raw_ok hE h hl
        have hp := load_fok (Q := fun c => Ev c m) hE (fun c c' e hk => by injection hk with hk; subst hk; exact e) hm
        obtain ⟨c, v, q1, q2, q3⟩ := load_ok h hp
        have hv : (do loadVar T (← asAddr (a.tmps.getD s undef)) : Sem Value).run P w = .ok v w := by
          have e : a.eval (.tmp s) = a.tmps.getD s undef := by simp [Act.eval]
          rw [e] at q1
          unfold Instr.loadAt at q1
          generalize a.tmps.getD s undef = y at q1 ⊢
          cases y with
          | pointer b => cases b with
            | some b => exact q1
            | none => simp [Instr.sureAddr] at q1
          | _ => simp [Instr.sureAddr] at q1
        refine ⟨v :: vs, by simp [g1], ?_, fun i y u hy hu => ?_⟩
        · rw [List.mapM_cons]
          simp only [Sem.run_bind, rvS, Sem.run_pure, Result.andThen_ok, g2]
          rw [Sem.run_bind] at hv
          rw [hv]
          simp [g2]
        · cases i with
          | zero => simp only [List.getElem?_cons_zero, Option.some.injEq] at hy hu; subst hy; subst hu; exact q3.rep q2
          | succ i => exact g3 i y u (by simpa using hy) (by simpa using hu)
      · exact absurd hx (by simp)
    · exact absurd hx (by simp)

/-- What is handed back as a shared value. -/
def shrB : Bs → MV → List Nat
  | .list, m => refs m
  | .map, m => refs m
  | _, _ => []
def shrC : List Bs → List MV → List Nat
  | b :: r, m :: q => shrB b m ++ shrC r q
  | _, _ => []
def shrR : List Sh → Res → List Nat
  | .c b :: r, m :: q => shrB b m ++ shrR r q
  | .agg l :: r, .agg cs :: q => shrC l cs ++ shrR r q
  | _ :: r, _ :: q => shrR r q
  | _, _ => []
def nubN : List Nat → List Nat
  | [] => []
  | k :: r => match memN r k with
    | true => nubN r
    | false => k :: nubN r
def outF (nB : Nat) (ids : List Nat) (r : Res) (B : Bxs) : Out := match eqNL ids (rngN B.length) with
  | true => (match plainB B with
    | true => some (r, B)
    | false => none)
  | false => (match plainL B ids with
    | true => some (renL (numI 0 ids) r, pickB (numI 0 ids) B ids)
    | false => none)
def out2 (nB : Nat) (st : St) (r : Res) : Out := outF nB (reach 400 st.B (rngN nB) (idsL r ++ idsB (st.B.take nB))) r st.B
def out1 (E : Env) (nB : Nat) (rs : List ResultVar) (st : St) (r : Res) (sg : List Sh) : Out := match nubN (shrR sg r) with
  | [] => out2 nB st r
  | l => (match st.retL l with
    | some st' => (match rawR E st' rs with
      | some r' => out2 nB st' r'
      | none => none)
    | none => none)
def out0 (E : Env) (nB : Nat) (rs : List ResultVar) (sg : List Sh) (st : St) : Out := match rawR E st rs with
  | some r => out1 E nB rs st r sg
  | none => none
/-- The end of a function. -/
def finF (E : Env) (nB : Nat) (rs : List ResultVar) (sg : List Sh) (e : PX) (st : St) : Out :=
  match e with
  | .exit _ => none
  | _ => (match st.B with
    | [] => out0 E nB rs sg st
    | _ :: _ => out0 E nB rs sg (foldAll st.B.length st))

theorem pick_plain {π : Ren} {B : Bxs} : ∀ {ids : List Nat}, plainL B ids = true → ∀ o, some o ∈ pickB π B ids → plainO o = true := by
  intro ids hp o ho
  obtain ⟨j, hj⟩ := List.getElem?_of_mem ho
  obtain ⟨k, o', h1, h2, h3⟩ := pickB_get hj
  have := plainL_get hp k (List.mem_of_getElem? h1) o' h2
  subst h3
  cases o' with
  | row dp sz es foc => cases foc with
    | nil => rfl
    | cons => simp [plainO] at this
  | map dp m foc => cases foc with
    | nil => rfl
    | cons => simp [plainO] at this
  | _ => rfl

/-- What the end of a function comes to. -/
theorem out_ok {E : Env} {P : Program} (hE : E.Ok P) {γ : List Value} {ω : Own} {w : World} {nt nB : Nat} {st : St} {a : Act} (h : Rel γ ω w nt st a) {rs : List ResultVar} {sg : List Sh} {r : Res} {B' : Bxs} {e : PX} (hx : finF E nB rs sg e st = some (r, B')) :
    (∀ id, e ≠ .exit id) ∧ (∀ o, some o ∈ B' → plainO o = true) ∧ ∃ vs γ' ω', vs.length = r.length ∧ (rs.mapM (rvS a.tmps)).run P w = .ok vs w ∧ ChgN nB γ ω w γ' ω' w ∧ (∀ b, w.heap.size ≤ b → ω' b = none) ∧ γ'.length = B'.length ∧ (∀ b k p, ω' b = some (.ob k p) → k < B'.length) ∧ Objs γ' ω' w B' ∧
      ∀ (i : Nat) (c : MV) (u : Value), r[i]? = some c → vs[i]? = some u → Rep γ' ω' w c u := by
  -- the last step
  have last : ∀ {ω1 : Own} {st1 : St} {r1 : Res}, Chg NotOuter γ ω w γ ω1 w → Rel γ ω1 w nt st1 a → rawR E st1 rs = some r1 → out2 nB st1 r1 = some (r, B') → (∀ o, some o ∈ B' → plainO o = true) ∧ ∃ vs γ' ω', vs.length = r.length ∧ (rs.mapM (rvS a.tmps)).run P w = .ok vs w ∧ ChgN nB γ ω w γ' ω' w ∧ (∀ b, w.heap.size ≤ b → ω' b = none) ∧ γ'.length = B'.length ∧ (∀ b k p, ω' b = some (.ob k p) → k < B'.length) ∧ Objs γ' ω' w B' ∧
      ∀ (i : Nat) (c : MV) (u : Value), r[i]? = some c → vs[i]? = some u → Rep γ' ω' w c u := by
    intro ω1 st1 r1 hc hR hraw ho
    obtain ⟨vs, g1, g2, g3⟩ := raw_ok hE hR hraw
    unfold out2 outF at ho
    obtain ⟨h1, t, h2⟩ := reach_pre 400 st1.B (rngN nB) (idsL r1 ++ idsB (st1.B.take nB)) (rngN_nodup nB)
    generalize reach 400 st1.B (rngN nB) (idsL r1 ++ idsB (st1.B.take nB)) = ids at ho h1 h2
    have hpre : ∀ k, k < nB → ids[k]? = some k := fun k hk => by
      rw [h2, List.getElem?_append_left (List.getElem?_eq_some_iff.1 (rngN_get hk)).1]
      exact rngN_get hk
    split at ho
    · rename_i hids
      split at ho
      · rename_i hpl
        injection ho with ho; injection ho with e1 e2; subst e1; subst e2
        refine ⟨plainB_get hpl, vs, ?_⟩
        -- labels of no object
        let ω2 : Own := fun b => match ω1 b with
          | some (.ob k p) => if k < st1.B.length then some (.ob k p) else some .outer
          | y => y
        have hn : ∀ b, ω1 b = none → ω2 b = none := fun b hb => by simp [ω2, hb]
        have hk2 : Keeps γ ω1 w γ ω2 w := ⟨fun _ _ h => h, Nat.le_refl _, fun b _ h0 => ⟨rfl, hn b h0⟩⟩
        refine ⟨γ, ω2, g1, g2, hc.toN.trans ⟨rfl, rfl, rfl, Nat.le_refl _, fun _ _ _ h => h, fun b _ h0 => ⟨rfl, hn b h0⟩, fun b _ h0 => ⟨rfl, by simp [ω2, h0]⟩⟩, fun b hb => hn b (hR.lt b hb), hR.len, fun b k p hb => ?_, fun k o hk => ?_, fun i c u hci hu => (g3 i c u hci hu).keeps hk2⟩
        · simp only [ω2] at hb
          split at hb
          · split at hb
            · rename_i hlt; injection hb with hb; injection hb with hb _; subst hb; exact hlt
            · simp at hb
          · rename_i hno; exact absurd hb (by intro e; exact hno k p e)
        · obtain ⟨hd, q1, q2⟩ := hR.objs k o hk
          refine ⟨hd, q1, q2.moved hk2 (k' := k) (fun p b _ h0 => ⟨rfl, ?_⟩)⟩
          simp only [ω2, h0]
          rw [if_pos (List.getElem?_eq_some_iff.1 hk).1]
      · exact absurd ho (by simp)
    · split at ho
      · rename_i hpl
        injection ho with ho; injection ho with e1 e2; subst e1; subst e2
        obtain ⟨γ', ω', q1, q2, q3, q4, q5, q6, q7⟩ := renum (B := st1.B) hR.objs h1 hpl hpre hR.lt
        refine ⟨pick_plain hpl, vs, γ', ω', by rw [renL_len]; exact g1, g2, hc.toN.trans q1, q2, q4, q5, q6, fun i c u hci hu => ?_⟩
        rw [renL_get] at hci
        cases hi : r1[i]? with
        | none => rw [hi] at hci; simp at hci
        | some c0 =>
          rw [hi] at hci; simp at hci; subst hci
          have hk2 : Keeps γ ω1 w γ ω' w := ⟨fun _ _ h => h, Nat.le_refl _, fun b _ h0 => ⟨rfl, q3 b h0⟩⟩
          exact ((g3 i c0 u hi hu).keeps hk2).ren q7
      · exact absurd ho (by simp)
  have mid : ∀ {ω1 : Own} {st1 : St}, Chg NotOuter γ ω w γ ω1 w → Rel γ ω1 w nt st1 a → out0 E nB rs sg st1 = some (r, B') → (∀ o, some o ∈ B' → plainO o = true) ∧ ∃ vs γ' ω', vs.length = r.length ∧ (rs.mapM (rvS a.tmps)).run P w = .ok vs w ∧ ChgN nB γ ω w γ' ω' w ∧ (∀ b, w.heap.size ≤ b → ω' b = none) ∧ γ'.length = B'.length ∧ (∀ b k p, ω' b = some (.ob k p) → k < B'.length) ∧ Objs γ' ω' w B' ∧
      ∀ (i : Nat) (c : MV) (u : Value), r[i]? = some c → vs[i]? = some u → Rep γ' ω' w c u := by
    intro ω1 st1 hc hR ho
    unfold out0 at ho
    split at ho
    · rename_i r1 hr1
      unfold out1 at ho
      split at ho
      · exact last hc hR hr1 ho
      · split at ho
        · rename_i st2 hst2
          split at ho
          · rename_i r2 hr2
            obtain ⟨ω2, g1, g2⟩ := hR.retL _ hst2
            exact last (hc.trans g1) g2 hr2 ho
          · exact absurd ho (by simp)
        · exact absurd ho (by simp)
    · exact absurd ho (by simp)
  have hne : ∀ id, e ≠ .exit id := by
    intro id q; subst q; exact absurd hx (by simp [finF])
  refine ⟨hne, ?_⟩
  have hx : (match st.B with
    | [] => out0 E nB rs sg st
    | _ :: _ => out0 E nB rs sg (foldAll st.B.length st)) = some (r, B') := by
    cases e with
    | exit id => exact absurd rfl (hne id)
    | _ => exact hx
  split at hx
  · exact mid (Chg.refl _ _ _ _) h hx
  · obtain ⟨ω1, g1, g2⟩ := h.foldAll st.B.length
    exact mid g1 g2 hx

/-- THE ROAD TO A CONTRACT. -/
theorem spec_of {E : Env} {P : Program} (hE : E.Ok P) {f : FuncId} {fn : Func} {c : Code} {args : List MV} {B : Bxs} {r : Res} {B' : Bxs} {sg : List Sh} (hf : P.funcs[f]? = some fn) (hb : fn.body = some c) (hname : (fn.name == "runtime.NumGoroutine") = false) (hna : args.length ≤ fn.ntmps)
    (h : PW P fn.ntmps B.length c ⟨argsV 0 args, B⟩ (fun e s => finF E B.length fn.results.toList sg e s = some (r, B'))) : SpecB P f args B r B' := by
  refine ⟨fun avs w => ?_, fun γ ω w vs hl hv hlt hgl hlen hlab hobj => ?_⟩
  · have h1 : fn.name ≠ "runtime.NumGoroutine" := by simpa using hname
    simp [callFunc, hf, h1, hb, mark]
  have hR : Rel γ ω w fn.ntmps ⟨argsV 0 args, B⟩ { tmps := vs.toArray ++ Array.replicate (fn.ntmps - vs.toArray.size) undef, defers := [] } := by
    refine ⟨by simp; omega, rfl, hlt, hgl, hlen, fun s => ?_, hobj⟩
    show Rep γ ω w (lk (argsV 0 args) s) _
    rw [lk_argsV]
    simp only [Nat.zero_le, if_true, Nat.sub_zero]
    cases hm : args[s]? with
    | none => exact .gone _
    | some m =>
      have hs : s < vs.length := by rw [hl]; exact (List.getElem?_eq_some_iff.1 hm).1
      have e : (vs.toArray ++ Array.replicate (fn.ntmps - vs.toArray.size) undef).getD s undef = vs[s] := by
        rw [Array.getD_eq_getD_getElem?, Array.getElem?_append_left (by simpa using hs)]
        simp [hs]
      simp only [e]
      exact hv s m vs[s] hm (List.getElem?_eq_getElem hs)
  refine calls_of_wp hf hb (h γ ω w _ _ hR (fun e γ' ω' w' st' a' h1 h2 h3 => ?_))
  obtain ⟨hne, hpl, us, γ2, ω2, g1, g2, g3, g4, g5, g6, g7, g8⟩ := out_ok hE h2 h3
  obtain ⟨v, hrun, hv1, hv2⟩ := results_run g2
  have key : a'.defers = [] ∧ ∃ v, (results fn a'.tmps).run P w' = .ok v w' ∧ ∃ v' γ' ω', Ending.returned v = .returned v' ∧ Chg NotOuter γ ω w γ' ω' w' ∧ (∀ b, w'.heap.size ≤ b → ω' b = none) ∧ γ'.length = B'.length ∧
      (∀ b k p, ω' b = some (.ob k p) → k < B'.length) ∧ Objs γ' ω' w' B' ∧ ResR γ' ω' w' r v' ∧ ∀ o, some o ∈ B' → plainO o = true := by
    refine ⟨h2.defers, v, hrun, v, γ2, ω2, rfl, (h1.trans g3).toC (Nat.le_of_eq hlen), g4, g5, g6, g7, ?_, hpl⟩
    match r, us, g1 with
    | [x], [u], _ =>
      show Rep γ2 ω2 w' x v
      rw [hv1 u rfl]
      exact g8 0 x u rfl rfl
    | [], [], _ => exact ⟨[], hv2 (by simp), rfl, by simp⟩
    | x :: y :: q, us, g1 => exact ⟨us, hv2 (by rw [g1]; simp), g1, g8⟩
  cases e with
  | normal => exact key
  | ret => exact key
  | exit id => exact (hne id rfl).elim
end Go.Pv
end
