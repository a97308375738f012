/- A library of this session: boxes and stores. -/
import Derived.Test.YtoakchnegkmepaaM15
set_option linter.unusedVariables false
set_option linter.unusedSimpArgs false
namespace Go.Pv
section
variable {P : Program} {γ : List Nat} {ω : Own} {w : World} {nt : Nat} {st : St} {a : Act}

/-! #### A variable in memory -/
theorem newBox (h : Rel γ ω w nt st a) {cs : List MV} {us : List Value} (hc : CellsR γ ω w cs us) (e : TypeId) :
    ∃ ω', Chg (fun _ => False) γ ω w (γ ++ [w.heap.size]) ω' (w.alloc (.cells us.toArray e)) ∧ Rel (γ ++ [w.heap.size]) ω' (w.alloc (.cells us.toArray e)) nt { st with B := st.B ++ [some (cs.map .sh)] } a := by
  obtain ⟨hcg, hlt'⟩ := alloc_chg γ ω w h.lt (.cells us.toArray e) (some (.box st.B.length))
  have hR := h.grow hcg hlt'
  have hpre : Chg (fun _ => False) γ (fun b => if b = w.heap.size then some (Owner.box st.B.length) else ω b) (w.alloc (.cells us.toArray e)) (γ ++ [w.heap.size]) (fun b => if b = w.heap.size then some (Owner.box st.B.length) else ω b) (w.alloc (.cells us.toArray e)) :=
    ⟨rfl, rfl, rfl, Nat.le_refl _, fun k b hk => by rw [List.getElem?_append_left (List.getElem?_eq_some_iff.1 hk).1]; exact hk, fun b _ h0 => ⟨rfl, h0⟩, fun b o _ h0 _ => ⟨rfl, h0⟩⟩
  refine ⟨_, hcg.trans hpre, hR.size, hR.defers, hR.lt, ⟨by simp [h.boxes.len], fun k bx hk => ?_⟩, fun s => ?_⟩
  · have hlen := h.boxes.len
    rcases Nat.lt_or_ge k st.B.length with hkl | hkl
    · rw [List.getElem?_append_left hkl] at hk
      obtain ⟨blk, cur, e', g1, g2, g3, g4, g5, g6⟩ := hR.boxes.box k bx hk
      exact ⟨blk, cur, e', hpre.pre _ _ g1, g2, g3, g4, g5, fun i c hi => by obtain ⟨u, q1, q2, q3⟩ := g6 i c hi; exact ⟨u, q1, q2, q3.chg hpre (fun h => h)⟩⟩
    · have hk' : k = st.B.length := by
        have := (List.getElem?_eq_some_iff.1 hk).1
        simp at this; omega
      subst hk'
      simp at hk
      subst hk
      refine ⟨w.heap.size, us.toArray, e, by rw [hlen, List.getElem?_append_right (Nat.le_refl _)]; simp, by simp, by simp, heap_alloc_new w _, by simp [hc.1], fun i c hi => ?_⟩
      rw [List.getElem?_map] at hi
      cases hci : cs[i]? with
      | none => rw [hci] at hi; simp at hi
      | some m =>
        rw [hci] at hi; simp at hi; subst hi
        have hiu : i < us.length := by rw [hc.1]; exact (List.getElem?_eq_some_iff.1 hci).1
        exact ⟨us[i], by simp [hiu], hc.2.1 _ (List.getElem_mem hiu), ((hc.2.2 i m _ hci (List.getElem?_eq_getElem hiu)).chg hcg).chg hpre⟩
  · refine slot_chg hR hpre (fun _ h => h) (fun h => h) (fun q sz m hq hat => ?_)
    cases q with
    | slot s1 => exact hat
    | cell k o =>
      obtain ⟨bx, h1, h2⟩ := at_cell hat
      simp only [St.at]
      rw [List.getElem?_append_left (List.getElem?_eq_some_iff.1 h1).1, h1]
      simp [h2]

/-- A variable in memory that never changes. -/
theorem newFrz (h : Rel γ ω w nt st a) {cs : List MV} {us : List Value} (hc : CellsR γ ω w cs us) (e : TypeId) :
    ∃ ω', Chg (fun _ => False) γ ω w γ ω' (w.alloc (.cells us.toArray e)) ∧ Rel γ ω' (w.alloc (.cells us.toArray e)) nt st a ∧ Rep γ ω' (w.alloc (.cells us.toArray e)) (.cptr cs 0) (.pointer (some ⟨w.heap.size, 0, none⟩)) := by
  obtain ⟨hcg, hlt'⟩ := alloc_chg γ ω w h.lt (.cells us.toArray e) none
  refine ⟨_, hcg, h.grow hcg hlt', ?_⟩
  have := Rep.cptr (γ := γ) (ω := fun b => if b = w.heap.size then none else ω b) (w := w.alloc (.cells us.toArray e)) cs 0 w.heap.size 0 (fun i => (us[i]?).getD undef) (by simp) (by simp)
    (fun i c hi => by
      have hiu : i < us.length := by rw [hc.1]; exact (List.getElem?_eq_some_iff.1 hi).1
      have e1 : (us[i]?).getD undef = us[i] := by rw [List.getElem?_eq_getElem hiu]; rfl
      rw [e1, Nat.zero_add]
      refine ⟨?_, hc.2.1 _ (List.getElem_mem hiu)⟩
      simp only [World.cell?, heap_alloc_new]
      simp [hiu])
    (fun i c hi => by
      have hiu : i < us.length := by rw [hc.1]; exact (List.getElem?_eq_some_iff.1 hi).1
      have e1 : (us[i]?).getD undef = us[i] := by rw [List.getElem?_eq_getElem hiu]; rfl
      rw [e1]
      exact (hc.2.2 i c _ hi (List.getElem?_eq_getElem hiu)).chg hcg)
  simpa using this

/-- A variable in memory is declared with a value; fz: it never changes. -/
def boxP (fz : Bool) (st : St) (dst : Option Tmp) (x : Operand) (K : St → Prop) : Prop :=
  match shv (retO st x) x with
  | some m => (∀ vs, m ≠ .tup vs) ∧ (if fz = true then K (putO (retO st x) dst (.sh (.cptr (cellsM m) 0)))
      else K (putO { (retO st x) with B := (retO st x).B ++ [some ((cellsM m).map .sh)] } dst (.sh (.ptr (retO st x).B.length 0))))
  | none => False

theorem box_ok (h : Rel γ ω w nt st a) {fz : Bool} {d : Option Tmp} (hd : ∀ t, d = some t → t < nt) {T : TypeId} {x : Operand} {K : St → Prop} (hx : boxP fz st d x K) :
    ∃ v w', (Instr.box T (a.eval x)).run P w = .ok v w' ∧ ∃ γ' ω' st', Chg NotOuter γ ω w γ' ω' w' ∧ Rel γ' ω' w' nt st' (a.put d v) ∧ K st' := by
  unfold boxP at hx
  split at hx
  · rename_i m hm
    obtain ⟨ht, hx⟩ := hx
    obtain ⟨ω1, hc1, hR1⟩ := h.retO x
    obtain ⟨us, g1, g2, g3, g4⟩ := cellsM_ok (shv_rep hR1 hm) ht
    have hc : CellsR γ ω1 w (cellsM m) us := ⟨g2, g3, g4⟩
    have hrun : (Instr.box T (a.eval x)).run P w = .ok (.pointer (some ⟨w.heap.size, 0, none⟩)) (w.alloc (.cells us.toArray T)) := by
      simp [Instr.box, newVar, newRow, g1]
    split at hx
    · obtain ⟨ω2, h1, h2, h3⟩ := newFrz hR1 hc T
      exact ⟨_, _, hrun, γ, ω2, _, hc1.trans (h1.mono (fun _ h => h.elim)), h2.putO hd (c := .sh (.cptr (cellsM m) 0)) (fun t _ => h3), hx⟩
    · obtain ⟨ω2, h1, h2⟩ := newBox hR1 hc T
      refine ⟨_, _, hrun, γ ++ [w.heap.size], ω2, _, hc1.trans (h1.mono (fun _ h => h.elim)), h2.putO hd (c := .sh (.ptr (retO st x).B.length 0)) (fun t _ => ?_), hx⟩
      refine Rep.ptr _ _ _ ?_
      have hl : γ.length = (retO st x).B.length := hR1.boxes.len.symm
      rw [← hl, List.getElem?_append_right (Nat.le_refl _)]; simp
  · exact hx.elim

def aloP (P : Program) (fz : Bool) (st : St) (dst : Option Tmp) (T : TypeId) (K : St → Prop) : Prop :=
  match tiOf P T with
  | some ti => if fz = true then K (putO st dst (.sh (.cptr ti.zero 0))) else K (putO { st with B := st.B ++ [some (ti.zero.map .sh)] } dst (.sh (.ptr st.B.length 0)))
  | none => False

theorem alo_ok (h : Rel γ ω w nt st a) {fz : Bool} {d : Option Tmp} (hd : ∀ t, d = some t → t < nt) {T : TypeId} {K : St → Prop} (hx : aloP P fz st d T K) :
    ∃ v w', (Instr.alloc T true (.tuple #[])).run P w = .ok v w' ∧ ∃ γ' ω' st', Chg NotOuter γ ω w γ' ω' w' ∧ Rel γ' ω' w' nt st' (a.put d v) ∧ K st' := by
  unfold aloP at hx
  split at hx
  · rename_i ti hti
    have hT := ty_of hti
    obtain ⟨z, hz, hz1, hz2⟩ := run_zeroT (P := P) (w := w) hT
    obtain ⟨z1, z2, z3⟩ := zerosOf_rep (γ := γ) (ω := ω) (w := w) hz1
    have hc : CellsR γ ω w ti.zero z.cells.toList := ⟨z1, z2, z3⟩
    have hrun : (Instr.alloc T true (.tuple #[])).run P w = .ok (.pointer (some ⟨w.heap.size, 0, none⟩)) (w.alloc (.cells z.cells.toList.toArray T)) := by
      simp [Instr.alloc, hz, newVar, newRow]
    split at hx
    · obtain ⟨ω2, h1, h2, h3⟩ := newFrz h hc T
      exact ⟨_, _, hrun, γ, ω2, _, (h1.mono (fun _ h => h.elim)), h2.putO hd (c := .sh (.cptr ti.zero 0)) (fun t _ => h3), hx⟩
    · obtain ⟨ω2, h1, h2⟩ := newBox h hc T
      refine ⟨_, _, hrun, γ ++ [w.heap.size], ω2, _, (h1.mono (fun _ h => h.elim)), h2.putO hd (c := .sh (.ptr st.B.length 0)) (fun t _ => ?_), hx⟩
      refine Rep.ptr _ _ _ ?_
      have hl : γ.length = st.B.length := h.boxes.len.symm
      rw [← hl, List.getElem?_append_right (Nat.le_refl _)]; simp
  · exact hx.elim

/-! #### Stores -/
/-- The content of a place is another one of the same length. -/
def St.upd (st : St) (p : Place) (c : Ct) : St :=
  match p with
  | .slot s => { st with v := pt st.v s c }
  | .cell k off => { st with B := setCt st.B k off c }

theorem Rel.upd {ω' : Own} {w' : World} (h : Rel γ ω w nt st a) {p : Place} {sz : Nat} {es es' : List (List MV)} (hat : st.at p = .own sz (.list es)) (hl : es'.length = es.length) {v : Value} (hv : p.cur γ a.tmps w v)
    (hc : Chg (fun x => x = p.owner) γ ω w γ ω' w') (hlt : ∀ b, w'.heap.size ≤ b → ω' b = none) (hown : OwnRep γ ω' w' p.owner sz (.list es') v) : Rel γ ω' w' nt (st.upd p (.own sz (.list es'))) a := by
  have hb : ∀ k, ¬ (Owner.box k = p.owner) := by intro k; cases p <;> simp [Place.owner]
  -- places of other slots
  have hkeep : ∀ (q : Place) (sz0 : Nat) (m0 : MV), st.at q = .own sz0 m0 → (q = p ∧ (st.upd p (.own sz (.list es'))).at q = .own sz (.list es')) ∨ (q ≠ p ∧ (st.upd p (.own sz (.list es'))).at q = .own sz0 m0) := by
    intro q sz0 m0 hq
    by_cases hqp : q = p
    · subst hqp
      refine .inl ⟨rfl, ?_⟩
      cases q with
      | slot s => simp only [St.at, St.upd, lk_pt, if_true]
      | cell k o =>
        obtain ⟨cs, h1, h2⟩ := at_cell hq
        have hB : setCt st.B k o (.own sz (.list es')) = st.B.set k (some (cs.set o (.own sz (.list es')))) := by simp [setCt, h1]
        simp only [St.at, St.upd, hB]
        have e1 : k < st.B.length := (List.getElem?_eq_some_iff.1 h1).1
        have e2 : o < cs.length := (List.getElem?_eq_some_iff.1 h2).1
        simp [e1, e2]
    · refine .inr ⟨hqp, ?_⟩
      cases p with
      | slot s0 =>
        cases q with
        | slot s =>
          have : s0 ≠ s := fun e => hqp (by rw [e])
          simp only [St.at, St.upd, lk_pt, if_neg this] at hq ⊢; exact hq
        | cell k o => exact hq
      | cell k0 o0 =>
        cases q with
        | slot s => exact hq
        | cell k o =>
          obtain ⟨cs, h1, h2⟩ := at_cell hq
          obtain ⟨cs0, g1, g2⟩ := at_cell hat
          have hB : setCt st.B k0 o0 (.own sz (.list es')) = st.B.set k0 (some (cs0.set o0 (.own sz (.list es')))) := by simp [setCt, g1]
          simp only [St.at, St.upd, hB, List.getElem?_set]
          by_cases hkk : k0 = k
          · subst hkk
            rw [g1] at h1; injection h1 with h1; injection h1 with h1; subst h1
            have hoo : o0 ≠ o := fun e => hqp (by rw [e])
            have : k0 < st.B.length := (List.getElem?_eq_some_iff.1 g1).1
            simp [this, List.getElem?_set, hoo, h2]
          · simp [hkk, h1, h2]
  have hslot : ∀ s, Place.slot s ≠ p → CtRep γ ω' w' (st.upd p (.own sz (.list es'))) a.tmps (.slot s) (lk st.v s) (a.tmps.getD s undef) := by
    intro s hs
    have ht : ¬ (Owner.slot s = p.owner) := by
      intro e; cases p with
      | slot s' => simp [Place.owner] at e; exact hs (by rw [e])
      | cell k o => simp [Place.owner] at e
    have hold := h.slots s
    cases hcs : lk st.v s with
    | al q =>
      rw [hcs] at hold
      obtain ⟨⟨sz0, m0, h1⟩, h2⟩ := hold
      refine ⟨?_, cur_chg h hc (fun k e => hb k e) h1 h2⟩
      rcases hkeep q sz0 m0 h1 with ⟨_, g⟩ | ⟨_, g⟩
      · exact ⟨_, _, g⟩
      · exact ⟨_, _, g⟩
    | eadr q i off =>
      rw [hcs] at hold
      obtain ⟨sz0, es0, u, blk, h1, h2, h3, h4, h5⟩ := hold
      rcases hkeep q sz0 _ h1 with ⟨e, g⟩ | ⟨_, g⟩
      · subst e
        rw [hat] at h1; injection h1 with e1 e2; injection e2 with e2; subst e1; subst e2
        exact ⟨sz, es', u, blk, g, by omega, cur_chg h hc (fun k e => hb k e) hat h3, h4, h5⟩
      · exact ⟨sz0, es0, u, blk, g, h2, cur_chg h hc (fun k e => hb k e) h1 h3, h4, h5⟩
    | sh m' => rw [hcs] at hold; exact Rep.chg hc hold
    | own sz' m' => rw [hcs] at hold; exact OwnRep.chg hc ht hold
    | tupc cs => rw [hcs] at hold; exact CtRep.chg (st := st.upd p (.own sz (.list es'))) hc ht hold (fun q u hq => by simp [Ct.refs] at hq)
    | siter s' pos => rw [hcs] at hold; exact CtRep.chg (st := st.upd p (.own sz (.list es'))) hc ht hold (fun q u hq => by simp [Ct.refs] at hq)
    | dead => trivial
  cases p with
  | slot s0 =>
    refine ⟨h.size, h.defers, hlt, h.boxes.chg hc rfl (fun k e => by simp [Place.owner] at e) (fun k i e => by simp [Place.owner] at e), fun s => ?_⟩
    by_cases hs : s0 = s
    · subst hs
      show CtRep γ ω' w' _ a.tmps (.slot s0) (lk (pt st.v s0 _) s0) _
      rw [lk_pt, if_pos rfl]
      simp only [Place.cur] at hv
      rw [hv]; exact hown
    · have := hslot s (fun e => hs (by injection e with e; exact e.symm))
      show CtRep γ ω' w' _ a.tmps (.slot s) (lk (pt st.v s0 _) s) _
      rw [lk_pt, if_neg hs]; exact this
  | cell k0 o0 =>
    obtain ⟨cs0, g1, g2⟩ := at_cell hat
    refine ⟨h.size, h.defers, hlt, ?_, fun s => hslot s (by simp)⟩
    refine boxes_but h.boxes rfl hc (fun k e => hb k e) (fun k i e => by simp [Place.owner] at e; exact e) (fun u hu => ?_)
    obtain ⟨cs, q1, c, blk, q2, q3, q4⟩ := hu
    obtain ⟨blk', r1, r2⟩ := hv
    rw [q3] at r1; injection r1 with r1; subst r1
    rw [q4] at r2; injection r2 with r2; subst r2
    exact hown

end
end Go.Pv
