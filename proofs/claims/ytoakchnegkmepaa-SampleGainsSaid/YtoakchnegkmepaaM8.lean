/- A library of this session: what is held is given up; slots are assigned. -/
import Derived.Test.YtoakchnegkmepaaM7
set_option linter.unusedVariables false
set_option linter.unusedSimpArgs false
namespace Go.Pv

abbrev NotOuter : Owner → Prop := fun o => o ≠ .outer

/-- What an effect comes to. -/
def Does (P : Program) (nt : Nat) (γ : List Nat) (ω : Own) (w : World) (a : Act) (K : St → Prop) : Prop :=
  ∃ ω' st', Chg NotOuter γ ω w γ ω' w ∧ Rel γ ω' w nt st' a ∧ K st'

theorem own_to_rep {γ : List Nat} {ω ω' : Own} {w : World} {o : Owner} (hω : ∀ b, ω b = some o → ω' b = none) (hc : Chg (fun x => x = o) γ ω w γ ω' w) {sz : Nat} {m : MV} {v : Value} (h : OwnRep γ ω w o sz m v) : Rep γ ω' w m v := by
  cases h with
  | list es _ e xs hr hcl ho =>
    rcases hr.2 with ⟨rfl, h0⟩ | ⟨g, cap, cur, rfl, _⟩
    · have : es = [] := List.eq_nil_of_length_eq_zero h0
      subst this
      exact .list0 _ _
    · obtain ⟨cap', h1, h2, h3, us, hus⟩ := own_cells (.list sz es _ e xs hr hcl ho) (blk := g) rfl
      injection h1 with _ _ h1
      refine .list es sz g 0 cap us ?_ (hω g h2) h3 (fun e he => ?_) ?_ ?_
      · rcases hr.2 with ⟨h4, _⟩ | ⟨g', cap', cur', h4, _, _, h5, _⟩
        · exact absurd h4 (by simp)
        · injection h4 with _ _ h4; omega
      · obtain ⟨j, hj⟩ := List.getElem?_of_mem he
        exact (hus j e hj).1
      · intro j e hj i c hi
        rw [Nat.zero_add]
        exact ⟨((hus j e hj).2 i c hi).1, ((hus j e hj).2 i c hi).2.1⟩
      · intro j e hj i c hi
        exact ((hus j e hj).2 i c hi).2.2.chg hc
  | map m blk es clock ho hlt hb he =>
    exact .map m blk es clock (hω blk ho) hb he.len he.key (fun i x e hx hee => (he.val i x e hx hee).chg hc) hlt he.born he.nodup

def retC (p : Place) (m : MV) (c : Ct) : Ct :=
  match c with
  | .al q => if q = p then .sh m else .al q
  | .eadr q i o => if q = p then .dead else .eadr q i o
  | c => c

def retS (p : Place) (m : MV) (v : List (Nat × Ct)) : List (Nat × Ct) := v.map fun x => (x.1, retC p m x.2)

theorem lk_retS (p : Place) (m : MV) (v : List (Nat × Ct)) (s : Nat) : lk (retS p m v) s = retC p m (lk v s) := by
  induction v with
  | nil => simp [retS, lk, retC]
  | cons x r ih =>
    obtain ⟨k, c⟩ := x
    by_cases h : k = s
    · simp [retS, lk, h]
    · simp only [retS, List.map_cons, lk, h, if_false]
      exact ih

def setCt (B : List (Option (List Ct))) (k off : Nat) (c : Ct) : List (Option (List Ct)) :=
  match B[k]? with
  | some (some cs) => B.set k (some (cs.set off c))
  | _ => B

/-- A place gives up what it holds: it is shared from now on. -/
def St.retire (st : St) (p : Place) : St :=
  match st.at p with
  | .own _ m => match p with
    | .slot s => { st with v := pt (retS p m st.v) s (.sh m) }
    | .cell k off => { v := retS p m st.v, B := setCt st.B k off (.sh m) }
  | _ => st

theorem at_cell {st : St} {k off : Nat} {sz : Nat} {m : MV} (h : st.at (.cell k off) = .own sz m) : ∃ cs, st.B[k]? = some (some cs) ∧ cs[off]? = some (.own sz m) := by
  simp only [St.at] at h
  split at h
  · rename_i cs hk
    cases ho : cs[off]? with
    | none => rw [ho] at h; simp at h
    | some c => rw [ho] at h; simp at h; subst h; exact ⟨cs, hk, ho⟩
  · exact absurd h (by simp)

theorem CtRep.chg {T : Owner → Prop} {γ γ' : List Nat} {ω ω' : Own} {w w' : World} {st : St} {tmps : Array Value} (hc : Chg T γ ω w γ' ω' w') {o : Owner} (ht : ¬ T o) {c : Ct} {v : Value} (h : CtRep γ ω w st tmps o c v)
    (hp : ∀ p u, c.refs p = true → p.cur γ tmps w u → p.cur γ' tmps w' u) : CtRep γ' ω' w' st tmps o c v := by
  cases c with
  | sh m => exact Rep.chg hc h
  | own sz m => exact OwnRep.chg hc ht h
  | al p => exact ⟨h.1, hp p v (by simp [Ct.refs]) h.2⟩
  | eadr p i off =>
    obtain ⟨sz, es, u, blk, h1, h2, h3, h4, h5⟩ := h
    exact ⟨sz, es, u, blk, h1, h2, hp p u (by simp [Ct.refs]) h3, h4, h5⟩
  | tupc cs =>
    obtain ⟨vs, h1, h2, h3⟩ := h
    refine ⟨vs, h1, h2, fun i c u hi hu => ?_⟩
    have := h3 i c u hi hu
    obtain ⟨c1, c2⟩ := c
    cases c1 with
    | none => exact Rep.chg hc this
    | some sz => exact OwnRep.chg hc ht this
  | siter s pos =>
    obtain ⟨blk, h1, h2, h3, h4⟩ := h
    obtain ⟨e1, e2⟩ := hc.keep blk o h3 h2 ht
    exact ⟨blk, h1, e2, Nat.lt_of_lt_of_le h3 hc.size, e1.trans h4⟩
  | dead => trivial

/-- The world has grown; nobody's things have turned. -/
theorem Rel.grow {γ : List Nat} {ω ω' : Own} {w w' : World} {nt : Nat} {st : St} {a : Act} (h : Rel γ ω w nt st a) (hc : Chg (fun _ => False) γ ω w γ ω' w') (hlt : ∀ b, w'.heap.size ≤ b → ω' b = none) : Rel γ ω' w' nt st a :=
  ⟨h.size, h.defers, hlt, h.boxes.chg hc rfl (fun _ h => h) (fun _ _ h => h), fun s => (h.slots s).chg hc (fun h => h) (fun p u _ hu => by
    cases p with
    | slot s => exact hu
    | cell k off =>
      obtain ⟨blk, h1, h2⟩ := hu
      refine ⟨blk, h1, ?_⟩
      have hlt : blk < w.heap.size := World.block_lt_of_cell? w _ h2
      cases hω : ω blk with
      | none => rw [cell_of_heap (hc.none blk hlt hω).1]; exact h2
      | some o => rw [cell_of_heap (hc.keep blk o hlt hω (fun h => h)).1]; exact h2)⟩

theorem Rel.retire {γ : List Nat} {ω : Own} {w : World} {nt : Nat} {st : St} {a : Act} (h : Rel γ ω w nt st a) (p : Place) :
    ∃ ω', Chg NotOuter γ ω w γ ω' w ∧ Rel γ ω' w nt (st.retire p) a := by
  unfold St.retire
  split
  · rename_i sz m hat
    let ω' : Own := fun b => if ω b = some p.owner then none else ω b
    have hc : Chg (fun x => x = p.owner) γ ω w γ ω' w := by
      refine ⟨rfl, rfl, rfl, Nat.le_refl _, fun _ _ h => h, fun b _ h0 => ⟨rfl, by simp [ω', h0]⟩, fun b o _ h0 hn => ⟨rfl, ?_⟩⟩
      simp only [ω', h0]
      rw [if_neg (by simpa using hn)]
    have hne : p.owner ≠ .outer := by cases p <;> simp [Place.owner]
    have hω : ∀ b, ω b = some p.owner → ω' b = none := fun b hb => by simp [ω', hb]
    have hcN : Chg NotOuter γ ω w γ ω' w := hc.mono (fun o ho => by rw [ho]; exact hne)
    have hlt : ∀ b, w.heap.size ≤ b → ω' b = none := fun b hb => by simp [ω', h.lt b hb]
    -- slots that are not the place itself
    have hslot : ∀ (st' : St) (s : Nat), (Place.slot s ≠ p) → (∀ (q : Place) (sz' : Nat) (m' : MV), q ≠ p → st.at q = .own sz' m' → st'.at q = .own sz' m') → CtRep γ ω' w st' a.tmps (.slot s) (retC p m (lk st.v s)) (a.tmps.getD s undef) := by
      intro st' s hs hkeep
      have hold := h.slots s
      have hto : ¬ (Owner.slot s = p.owner) := by
        intro e
        cases p with
        | slot s' => simp [Place.owner] at e; exact hs (by rw [e])
        | cell k o => simp [Place.owner] at e
      cases hcs : lk st.v s with
      | al q =>
        rw [hcs] at hold
        by_cases hq : q = p
        · subst hq
          simp only [retC, if_true]
          exact own_to_rep hω hc (cur_own h hat hold.2)
        · simp only [retC, if_neg hq]
          obtain ⟨⟨sz', m', h1⟩, h2⟩ := hold
          exact ⟨⟨sz', m', hkeep q sz' m' hq h1⟩, h2⟩
      | eadr q i off =>
        rw [hcs] at hold
        by_cases hq : q = p
        · simp only [retC, if_pos hq]; trivial
        · simp only [retC, if_neg hq]
          obtain ⟨sz', es, u, blk, h1, h2, h3, h4, h5⟩ := hold
          exact ⟨sz', es, u, blk, hkeep q sz' _ hq h1, h2, h3, h4, h5⟩
      | sh m' => rw [hcs] at hold; exact Rep.chg hc hold
      | own sz' m' => rw [hcs] at hold; exact OwnRep.chg hc hto hold
      | tupc cs => rw [hcs] at hold; exact CtRep.chg (st := st') hc hto hold (fun q u _ hu => hu)
      | siter s' pos => rw [hcs] at hold; exact CtRep.chg (st := st') hc hto hold (fun q u _ hu => hu)
      | dead => trivial
    cases p with
    | slot s0 =>
      refine ⟨ω', hcN, h.size, h.defers, hlt, ?_, fun s => ?_⟩
      · exact h.boxes.chg hc rfl (fun k e => by simp [Place.owner] at e) (fun k i e => by simp [Place.owner] at e)
      · show CtRep γ ω' w _ a.tmps (.slot s) (lk (pt _ s0 _) s) _
        rw [lk_pt]
        by_cases hs : s0 = s
        · subst hs
          rw [if_pos rfl]
          exact own_to_rep hω hc (cur_own h hat rfl)
        · rw [if_neg hs, lk_retS]
          refine hslot _ s (fun e => hs (by injection e with e; exact e.symm)) (fun q sz' m' hq hqat => ?_)
          cases q with
          | slot s1 =>
            have hs1 : s0 ≠ s1 := fun e => hq (by rw [e])
            simp only [St.at] at hqat ⊢
            rw [lk_pt, if_neg hs1, lk_retS, hqat]; rfl
          | cell k o => exact hqat
    | cell k0 o0 =>
      obtain ⟨cs0, hk0, ho0⟩ := at_cell hat
      have hB : setCt st.B k0 o0 (.sh m) = st.B.set k0 (some (cs0.set o0 (.sh m))) := by simp [setCt, hk0]
      have hlt0 : o0 < cs0.length := (List.getElem?_eq_some_iff.1 ho0).1
      have hkeep : ∀ (q : Place) (sz' : Nat) (m' : MV), q ≠ .cell k0 o0 → st.at q = .own sz' m' → ({ v := retS (.cell k0 o0) m st.v, B := setCt st.B k0 o0 (.sh m) } : St).at q = .own sz' m' := by
        intro q sz' m' hq hqat
        cases q with
        | slot s1 => simp only [St.at] at hqat ⊢; rw [lk_retS, hqat]; rfl
        | cell k o =>
          obtain ⟨cs, hk, ho⟩ := at_cell hqat
          simp only [St.at, hB, List.getElem?_set]
          by_cases hkk : k0 = k
          · subst hkk
            rw [hk0] at hk; injection hk with hk; injection hk with hk; subst hk
            have hoo : o0 ≠ o := fun e => hq (by rw [e])
            have : k0 < st.B.length := (List.getElem?_eq_some_iff.1 hk0).1
            simp [this, List.getElem?_set, hoo, ho]
          · simp [hkk, hk, ho]
      refine ⟨ω', hcN, h.size, h.defers, hlt, ⟨?_, fun k cs hk => ?_⟩, fun s => ?_⟩
      · show (setCt st.B k0 o0 (.sh m)).length = γ.length
        rw [hB, List.length_set]; exact h.boxes.len
      · have hk' : (setCt st.B k0 o0 (.sh m))[k]? = some (some cs) := hk
        rw [hB, List.getElem?_set] at hk'
        by_cases hkk : k0 = k
        · subst hkk
          have hl : k0 < st.B.length := (List.getElem?_eq_some_iff.1 hk0).1
          simp [hl] at hk'
          subst hk'
          obtain ⟨blk, cur, e, h1, h2, h3, h4, h5, h6⟩ := h.boxes.box k0 cs0 hk0
          refine ⟨blk, cur, e, h1, h2, by simp [ω', h3, Place.owner], h4, by simpa using h5, fun i c hi => ?_⟩
          rw [List.getElem?_set] at hi
          by_cases hii : o0 = i
          · subst hii
            simp [hlt0] at hi
            subst hi
            obtain ⟨u, hu, h1c, hb⟩ := h6 o0 _ ho0
            exact ⟨u, hu, h1c, own_to_rep hω hc hb⟩
          · simp [hii] at hi
            obtain ⟨u, hu, h1c, hb⟩ := h6 i c hi
            refine ⟨u, hu, h1c, hb.chg hc ?_⟩
            intro e; simp [Place.owner] at e; exact hii e.symm
        · simp [hkk] at hk'
          obtain ⟨blk, cur, e, h1, h2, h3, h4, h5, h6⟩ := h.boxes.box k cs hk'
          refine ⟨blk, cur, e, h1, h2, by simp [ω', h3, Place.owner], h4, h5, fun i c hi => ?_⟩
          obtain ⟨u, hu, h1c, hb⟩ := h6 i c hi
          refine ⟨u, hu, h1c, hb.chg hc ?_⟩
          intro e; simp [Place.owner] at e; exact hkk e.1.symm
      · show CtRep γ ω' w _ a.tmps (.slot s) (lk (retS _ m st.v) s) _
        rw [lk_retS]
        exact hslot _ s (by simp) hkeep
  · exact ⟨ω, Chg.refl _ _ _ _, h⟩

def retO (st : St) : Operand → St
  | .tmp t => match lk st.v t with
    | .own _ _ => st.retire (.slot t)
    | .al p => st.retire p
    | _ => st
  | _ => st

def retOs (st : St) : List Operand → St
  | [] => st
  | x :: r => retOs (retO st x) r

theorem Rel.retO {γ : List Nat} {ω : Own} {w : World} {nt : Nat} {st : St} {a : Act} (h : Rel γ ω w nt st a) (x : Operand) : ∃ ω', Chg NotOuter γ ω w γ ω' w ∧ Rel γ ω' w nt (retO st x) a := by
  cases x with
  | tmp t =>
    simp only [Go.Pv.retO]
    split
    · exact h.retire _
    · exact h.retire _
    · exact ⟨ω, Chg.refl _ _ _ _, h⟩
  | _ => exact ⟨ω, Chg.refl _ _ _ _, h⟩

theorem Rel.retOs {γ : List Nat} {w : World} {nt : Nat} {a : Act} : ∀ (xs : List Operand) {ω : Own} {st : St}, Rel γ ω w nt st a → ∃ ω', Chg NotOuter γ ω w γ ω' w ∧ Rel γ ω' w nt (retOs st xs) a
  | [], ω, st, h => ⟨ω, Chg.refl _ _ _ _, h⟩
  | x :: r, ω, st, h => by
    obtain ⟨ω1, hc1, h1⟩ := h.retO x
    obtain ⟨ω2, hc2, h2⟩ := Rel.retOs r h1
    exact ⟨ω2, hc1.trans hc2, h2⟩

end Go.Pv
