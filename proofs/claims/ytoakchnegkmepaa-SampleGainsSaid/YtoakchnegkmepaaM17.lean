/- A library of this session: stores. -/
import Derived.Test.YtoakchnegkmepaaM16
set_option linter.unusedVariables false
set_option linter.unusedSimpArgs false
namespace Go.Pv

theorem flatten_get {α : Type} {sz : Nat} : ∀ {es : List (List α)}, (∀ e ∈ es, e.length = sz) → ∀ (j i : Nat), i < sz → es.flatten[j * sz + i]? = (es[j]?).bind (·[i]?)
  | [], _, j, i, _ => by simp
  | e :: es, h, 0, i, hi => by
    have he : e.length = sz := h e (by simp)
    simp only [Nat.zero_mul, Nat.zero_add, List.flatten_cons]
    rw [List.getElem?_append_left (by omega)]; rfl
  | e :: es, h, j + 1, i, hi => by
    have he : e.length = sz := h e (by simp)
    simp only [List.flatten_cons]
    rw [List.getElem?_append_right (by rw [he, Nat.add_mul]; omega), show (j + 1) * sz + i - e.length = j * sz + i from by rw [he, Nat.add_mul]; omega]
    rw [flatten_get (fun e he => h e (by simp [he])) j i hi]; rfl

theorem flatten_len {α : Type} {sz : Nat} : ∀ {es : List (List α)}, (∀ e ∈ es, e.length = sz) → es.flatten.length = es.length * sz
  | [], _ => by simp
  | e :: es, h => by
    rw [List.flatten_cons, List.length_append, flatten_len (fun e he => h e (by simp [he])), h e (by simp), List.length_cons, Nat.add_mul]; omega

theorem flatten_set {α : Type} {sz : Nat} {es : List (List α)} (h : ∀ e ∈ es, e.length = sz) {i : Nat} {e : List α} (he : es[i]? = some e) (cs : List α) (off : Nat) (ho : off + cs.length ≤ sz) :
    (es.set i (e.take off ++ cs ++ e.drop (off + cs.length))).flatten = es.flatten.take (i * sz + off) ++ cs ++ es.flatten.drop (i * sz + off + cs.length) := by
  induction es generalizing i with
  | nil => simp at he
  | cons x r ih =>
    have hx : x.length = sz := h x (by simp)
    cases i with
    | zero =>
      simp at he; subst he
      simp only [List.set_cons_zero, List.flatten_cons, Nat.zero_mul, Nat.zero_add]
      rw [List.take_append_of_le_length (by omega), List.drop_append_of_le_length (by omega)]
      simp
    | succ i =>
      have := ih (fun e he => h e (by simp [he])) (by simpa using he)
      simp only [List.set_cons_succ, List.flatten_cons, this]
      have e1 : (i + 1) * sz + off = x.length + (i * sz + off) := by rw [hx, Nat.add_mul]; omega
      rw [e1, List.take_append, List.drop_append]
      have e2 : x.take (x.length + (i * sz + off)) = x := List.take_of_length_le (by omega)
      have e3 : x.drop (x.length + (i * sz + off) + cs.length) = [] := List.drop_eq_nil_of_le (by omega)
      rw [e2, e3, show x.length + (i * sz + off) - x.length = i * sz + off from by omega, show x.length + (i * sz + off) + cs.length - x.length = i * sz + off + cs.length from by omega]
      simp

section
variable {P : Program} {γ : List Nat} {ω : Own} {w : World} {nt : Nat} {st : St} {a : Act}

theorem cells_to {sz : Nat} {es : List (List MV)} {xs : List Value} (hs : 0 < sz) (h : Cells γ ω w sz es xs) : CellsR γ ω w es.flatten xs := by
  refine ⟨by rw [h.len, flatten_len h.wid], h.one, fun q c u hc hu => ?_⟩
  have e1 := flatten_get h.wid (q / sz) (q % sz) (Nat.mod_lt _ hs)
  rw [Nat.div_add_mod' q sz, hc] at e1
  cases hj : es[q / sz]? with
  | none => rw [hj] at e1; simp at e1
  | some e =>
    rw [hj] at e1; simp at e1
    obtain ⟨u', g1, g2⟩ := h.rep _ e hj _ c e1.symm
    rw [Nat.div_add_mod' q sz, hu] at g1
    injection g1 with g1; subst g1; exact g2

theorem cells_from {sz : Nat} {es : List (List MV)} {xs : List Value} (hw : ∀ e ∈ es, e.length = sz) (h : CellsR γ ω w es.flatten xs) : Cells γ ω w sz es xs := by
  refine ⟨by rw [h.1, flatten_len hw], hw, h.2.1, fun j e hj i c hi => ?_⟩
  have hil : i < sz := by rw [← hw e (List.mem_of_getElem? hj)]; exact (List.getElem?_eq_some_iff.1 hi).1
  have e1 := flatten_get hw j i hil
  rw [hj] at e1
  simp only [Option.bind_some, hi] at e1
  have hlt : j * sz + i < xs.length := by rw [h.1]; exact (List.getElem?_eq_some_iff.1 e1).1
  exact ⟨xs[j * sz + i], List.getElem?_eq_getElem hlt, h.2.2 _ c _ e1 (List.getElem?_eq_getElem hlt)⟩

theorem run_storeT {T : TypeId} {ti : TI} (hT : Ty P T ti) {g o : Nat} {e : TypeId} {cur : Array Value} (hg : w.heap[g]? = some (.cells cur e (0, 0))) {v : Value} {us : List Value} (hv : v.cells = us.toArray) (hl : us.length = ti.size) (hfit : o + us.length ≤ cur.size) (h1 : ∀ u ∈ us, u.oneCell' = true) :
    (Instr.storeAt T (.pointer (some ⟨g, o, none⟩)) v).run P w = .ok () (w.setRow g (cur.toList.take o ++ us ++ cur.toList.drop (o + us.length)).toArray) := by
  have hst := run_storeCells_at P g o e us 0 cur w hg (by simpa using hfit) h1
  simp only [Nat.add_zero] at hst
  simp [Instr.storeAt, Instr.sureAddr, storeVar, hv, run_sizeT hT, hl, hst]

/-- A store into an element of a row that one place holds. -/
def stoE (P : Program) (st : St) (T : TypeId) (p : Place) (i off : Nat) (x : Operand) (K : St → Prop) : Prop :=
  match (retO st x).at p with
  | .own sz (.list es) => match shv (retO st x) x, es[i]? with
    | some m, some e => (∀ vs, m ≠ .tup vs) ∧ (cellsM m).length = szOf P T ∧ szOf P T ≠ 0 ∧ off + szOf P T ≤ sz ∧
        K ((retO st x).upd p (.own sz (.list (es.set i (e.take off ++ cellsM m ++ e.drop (off + (cellsM m).length))))))
    | _, _ => False
  | _ => False

theorem retire_keeps (h : Rel γ ω w nt st a) {q p : Place} {sz : Nat} {m : MV} (hp : (st.retire q).at p = .own sz m) : p ≠ q ∨ st.retire q = st := by
  by_cases e : p = q
  · subst e
    right
    unfold St.retire at hp ⊢
    split
    · rename_i sz0 m0 hat
      exfalso
      rw [hat] at hp
      cases p with
      | slot s => simp only [St.at, lk_pt, if_true] at hp; exact absurd hp (by simp)
      | cell k o =>
        obtain ⟨cs, h1, h2⟩ := at_cell hat
        have hB : setCt st.B k o (.sh m0) = st.B.set k (some (cs.set o (.sh m0))) := by simp [setCt, h1]
        have e1 : k < st.B.length := (List.getElem?_eq_some_iff.1 h1).1
        have e2 : o < cs.length := (List.getElem?_eq_some_iff.1 h2).1
        simp only [St.at, hB] at hp
        simp [e1, e2] at hp
    · rfl
  · exact .inl e

theorem retire_eadr {t : Nat} {p q : Place} {i off : Nat} (hc : lk st.v t = .eadr p i off) (hpq : p ≠ q) : lk (st.retire q).v t = .eadr p i off := by
  unfold St.retire
  split
  · rename_i sz m hat
    cases q with
    | slot s =>
      simp only [lk_pt]
      by_cases hs : s = t
      · subst hs; simp only [St.at] at hat; rw [hc] at hat; exact absurd hat (by simp)
      · rw [if_neg hs, lk_retS, hc]; simp [retC, hpq]
    | cell k o => simp only [lk_retS, hc]; simp [retC, hpq]
  · exact hc

theorem retO_eadr (h : Rel γ ω w nt st a) {t : Nat} {p : Place} {i off : Nat} (hc : lk st.v t = .eadr p i off) {x : Operand} {sz : Nat} {m : MV} (hp : (retO st x).at p = .own sz m) : lk (retO st x).v t = .eadr p i off := by
  cases x with
  | tmp s =>
    simp only [retO] at hp ⊢
    cases hs : lk st.v s with
    | own sz' m' =>
      simp only [hs] at hp
      show lk (st.retire (.slot s)).v t = _
      rcases retire_keeps h hp with g | g
      · exact retire_eadr hc g
      · rw [g]; exact hc
    | al q =>
      simp only [hs] at hp
      show lk (st.retire q).v t = _
      rcases retire_keeps h hp with g | g
      · exact retire_eadr hc g
      · rw [g]; exact hc
    | _ => exact hc
  | _ => exact hc

theorem stoE_ok (h : Rel γ ω w nt st a) {T : TypeId} {t : Nat} {p : Place} {i off : Nat} (hc : lk st.v t = .eadr p i off) {x : Operand} {K : St → Prop} (hx : stoE P st T p i off x K) :
    ∃ w', (Instr.storeAt T (a.eval (.tmp t)) (a.eval x)).run P w = .ok () w' ∧ ∃ ω' st', Chg NotOuter γ ω w γ ω' w' ∧ Rel γ ω' w' nt st' a ∧ K st' := by
  unfold stoE at hx
  split at hx
  · rename_i sz es hat
    split at hx
    · rename_i m e hm he
      obtain ⟨ht, hlen, hne, hoff, hK⟩ := hx
      obtain ⟨ω1, hc1, hR⟩ := h.retO x
      have hce := retO_eadr h hc hat
      obtain ⟨sz0, es0, u, blk, q1, q2, q3, q4, q5⟩ := (slot_rep hR t hce)
      rw [hat] at q1; injection q1 with e1 e2; injection e2 with e2; subst e1; subst e2
      have hown := cur_own hR hat q3
      obtain ⟨us, g1, g2, g3, g4⟩ := cellsM_ok (shv_rep hR hm) ht
      obtain ⟨ti, hti, hts⟩ := szOf_ne hne
      cases hown with
      | list _ _ e' xs hr hcl ho =>
        rcases hr.2 with ⟨hn, _⟩ | ⟨g, cap, cur, heq, _, hg, hle, hmx, hcs, htk⟩
        · rw [hn] at q4; simp [Value.ownBlock] at q4
        · rw [heq] at q4; simp [Value.ownBlock] at q4
          subst q4
          have hsz : 0 < sz := by omega
          have hil : i < es.length := q2
          have hrow : i * sz + sz ≤ es.length * sz := by
            have : (i + 1) * sz ≤ es.length * sz := Nat.mul_le_mul_right sz hil
            rw [Nat.add_mul, Nat.one_mul] at this; exact this
          have hcap : es.length * sz ≤ cur.size := by rw [hcs]; exact Nat.mul_le_mul_right _ hle
          have hul : us.length = szOf P T := by rw [g2, hlen]
          have hrun := run_storeT (P := P) (ty_of hti) (w := w) (g := g) (o := i * sz + off) (e := e') (cur := cur) hg g1 (by omega) (by omega) g3
          have hxl : xs.length = es.length * sz := hcl.len
          -- the cells behind the store
          have hR2 : CellsR γ ω1 w (es.flatten.take (i * sz + off) ++ cellsM m ++ es.flatten.drop (i * sz + off + (cellsM m).length)) (xs.take (i * sz + off) ++ us ++ xs.drop (i * sz + off + us.length)) :=
            (cells_to hsz hcl).splice ⟨g2, g3, g4⟩ (i * sz + off) (by rw [flatten_len hcl.wid]; omega)
          rw [← flatten_set hcl.wid he (cellsM m) off (by omega)] at hR2
          have hel : e.length = sz := hcl.wid e (List.mem_of_getElem? he)
          have hcells : Cells γ ω1 w sz (es.set i (e.take off ++ cellsM m ++ e.drop (off + (cellsM m).length))) (xs.take (i * sz + off) ++ us ++ xs.drop (i * sz + off + us.length)) := by
            refine cells_from (fun y hy => ?_) hR2
            rcases List.mem_or_eq_of_mem_set hy with hy | hy
            · exact hcl.wid y hy
            · subst hy; simp; omega
          let w' := w.setRow g (cur.toList.take (i * sz + off) ++ us ++ cur.toList.drop (i * sz + off + us.length)).toArray
          have hgb : ∀ b, b ≠ g → w'.heap[b]? = w.heap[b]? := fun b hb => setRow_other w g b _ hb
          have hsizew : w'.heap.size = w.heap.size := by simp [w', World.setRow]
          have hog := ho g (by rw [heq]; rfl)
          have hcg : Chg (fun x => x = p.owner) γ ω1 w γ ω1 w' := by
            refine ⟨rfl, rfl, rfl, by omega, fun _ _ h => h, fun b hb h0 => ⟨hgb b (fun e => ?_), h0⟩, fun b o hb h0 hn => ⟨hgb b (fun e => ?_), h0⟩⟩
            · subst e; rw [hog.1] at h0; exact absurd h0 (by simp)
            · subst e; rw [hog.1] at h0; injection h0 with h0; exact hn h0.symm
          have hlt' : ∀ b, w'.heap.size ≤ b → ω1 b = none := fun b hb => hR.lt b (by omega)
          have hne' : p.owner ≠ .outer := by cases p <;> simp [Place.owner]
          refine ⟨w', by rw [q5]; exact hrun, ω1, _, hc1.trans (hcg.mono (fun o ho => by rw [ho]; exact hne')), hR.upd hat (by simp) q3 hcg hlt' ?_, hK⟩
          refine .list sz _ _ e' _ ⟨by rw [hcells.len], .inr ⟨g, cap, _, by rw [heq, List.length_set], Nat.zero_le _, setRow_heap w g cur _ e' _ hg, by simpa using hle, hmx, ?_, ?_⟩⟩ (hcells.chg hcg) (fun b hb => ⟨(ho b hb).1, by rw [hsizew]; exact (ho b hb).2⟩)
          · simp; omega
          · simp only [List.length_set]
            rw [← htk]
            have hcl2 : cur.toList.length = cur.size := Array.length_toList
            rw [List.take_append, List.take_append]
            have a1 : (cur.toList.take (i * sz + off)).length = i * sz + off := by simp; omega
            rw [a1]
            rw [List.take_of_length_le (l := cur.toList.take (i * sz + off)) (by rw [a1]; omega)]
            rw [List.take_of_length_le (l := us) (by omega)]
            rw [List.take_take, Nat.min_eq_left (by omega)]
            congr 1
            rw [List.drop_take]
            congr 1
            simp; omega
    · exact hx.elim
  · exact hx.elim

end
end Go.Pv
