/- A library of this session: what is held is handed on; assignment; append. -/
import Derived.Test.YtoakchnegkmepaaM8
set_option linter.unusedVariables false
set_option linter.unusedSimpArgs false
namespace Go.Pv

/-- A place is empty from now on. -/
def St.spend (st : St) (p : Place) : St :=
  match p with
  | .slot s => { st with v := pt (killS p st.v) s .dead }
  | .cell k off => { v := killS p st.v, B := setCt st.B k off .dead }

/-- The value of a place is as it was, where no box has turned. -/
theorem cur_chg {γ : List Nat} {ω ω' : Own} {w w' : World} {nt : Nat} {st : St} {a : Act} (h : Rel γ ω w nt st a) {T : Owner → Prop} {γ' : List Nat} (hc : Chg T γ ω w γ' ω' w') (hb : ∀ k, ¬ T (.box k)) {q : Place} {sz : Nat} {m : MV} (hat : st.at q = .own sz m) {u : Value}
    (hu : q.cur γ a.tmps w u) : q.cur γ' a.tmps w' u := by
  cases q with
  | slot s => exact hu
  | cell k off =>
    obtain ⟨blk, h1, h2⟩ := hu
    obtain ⟨cs, hk, ho⟩ := at_cell hat
    obtain ⟨blk', u', g1, g2, g3, g4, _⟩ := cell_box h.boxes hk ho
    rw [h1] at g1; injection g1 with g1; subst g1
    refine ⟨blk, hc.pre _ _ h1, ?_⟩
    rw [cell_of_heap (hc.keep blk _ g2 g3 (hb k)).1]; exact h2

/-- Contents of a slot where others have turned. -/
theorem slot_chg {γ : List Nat} {ω ω' : Own} {w w' : World} {nt : Nat} {st st' : St} {a : Act} (h : Rel γ ω w nt st a) {T : Owner → Prop} {γ' : List Nat} (hc : Chg T γ ω w γ' ω' w') (hb : ∀ k, ¬ T (.box k)) {s : Nat} (ht : ¬ T (.slot s))
    (hk : ∀ (q : Place) (sz : Nat) (m : MV), (lk st.v s).refs q = true → st.at q = .own sz m → st'.at q = .own sz m) : CtRep γ' ω' w' st' a.tmps (.slot s) (lk st.v s) (a.tmps.getD s undef) := by
  have hold := h.slots s
  cases hcs : lk st.v s with
  | al q =>
    rw [hcs] at hold hk
    obtain ⟨⟨sz', m', h1⟩, h2⟩ := hold
    exact ⟨⟨sz', m', hk q sz' m' (by simp [Ct.refs]) h1⟩, cur_chg h hc hb h1 h2⟩
  | eadr q i off =>
    rw [hcs] at hold hk
    obtain ⟨sz', es, u, blk, h1, h2, h3, h4, h5⟩ := hold
    exact ⟨sz', es, u, blk, hk q sz' _ (by simp [Ct.refs]) h1, h2, cur_chg h hc hb h1 h3, h4, h5⟩
  | sh m' => rw [hcs] at hold; exact Rep.chg hc hold
  | own sz' m' => rw [hcs] at hold; exact OwnRep.chg hc ht hold
  | tupc cs => rw [hcs] at hold; exact CtRep.chg (st := st') hc ht hold (fun q u hq => by simp [Ct.refs] at hq)
  | siter s' pos => rw [hcs] at hold; exact CtRep.chg (st := st') hc ht hold (fun q u hq => by simp [Ct.refs] at hq)
  | dead => trivial

theorem boxes_but {γ γ' : List Nat} {ω ω' : Own} {w w' : World} {B : List (Option (List Ct))} (h : Boxes γ ω w B) {T : Owner → Prop} (hγ : γ'.length = γ.length) (hc : Chg T γ ω w γ' ω' w') (hb : ∀ k, ¬ T (.box k)) {k0 o0 : Nat} (ht : ∀ k i, T (.cell k i) → k = k0 ∧ i = o0) {c' : Ct}
    (hc' : ∀ u, (∃ cs, B[k0]? = some (some cs) ∧ ∃ c blk, cs[o0]? = some c ∧ γ[k0]? = some blk ∧ w.cell? ⟨blk, o0, none⟩ = some u) → BoxCt γ' ω' w' k0 o0 c' u) : Boxes γ' ω' w' (setCt B k0 o0 c') := by
  refine ⟨?_, fun k cs hk => ?_⟩
  · unfold setCt; split
    · rw [List.length_set, hγ]; exact h.len
    · rw [hγ]; exact h.len
  · unfold setCt at hk
    split at hk
    · rename_i cs0 hk0
      rw [List.getElem?_set] at hk
      by_cases hkk : k0 = k
      · subst hkk
        have hl : k0 < B.length := (List.getElem?_eq_some_iff.1 hk0).1
        simp [hl] at hk
        subst hk
        obtain ⟨blk, cur, e, h1, h2, h3, h4, h5, h6⟩ := h.box k0 cs0 hk0
        obtain ⟨e1, o1⟩ := hc.keep blk _ h2 h3 (hb k0)
        refine ⟨blk, cur, e, hc.pre _ _ h1, Nat.lt_of_lt_of_le h2 hc.size, o1, e1.trans h4, by simpa using h5, fun i c hi => ?_⟩
        rw [List.getElem?_set] at hi
        by_cases hii : o0 = i
        · subst hii
          split at hi
          · split at hi
            · rename_i hlt
              injection hi with hi; subst hi
              obtain ⟨u, hu, h1c, hb'⟩ := h6 o0 _ (List.getElem?_eq_getElem hlt)
              refine ⟨u, hu, h1c, hc' u ⟨cs0, hk0, _, blk, List.getElem?_eq_getElem hlt, h1, by simp [World.cell?, h4, hu]⟩⟩
            · simp at hi
          · rename_i hne; exact absurd rfl hne
        · simp [hii] at hi
          obtain ⟨u, hu, h1c, hb'⟩ := h6 i c hi
          exact ⟨u, hu, h1c, hb'.chg hc (fun e => hii (ht _ _ e).2.symm)⟩
      · simp [hkk] at hk
        obtain ⟨blk, cur, e, h1, h2, h3, h4, h5, h6⟩ := h.box k cs hk
        obtain ⟨e1, o1⟩ := hc.keep blk _ h2 h3 (hb k)
        refine ⟨blk, cur, e, hc.pre _ _ h1, Nat.lt_of_lt_of_le h2 hc.size, o1, e1.trans h4, h5, fun i c hi => ?_⟩
        obtain ⟨u, hu, h1c, hb'⟩ := h6 i c hi
        exact ⟨u, hu, h1c, hb'.chg hc (fun e => hkk (ht _ _ e).1.symm)⟩
    · rename_i hno
      obtain ⟨blk, cur, e, h1, h2, h3, h4, h5, h6⟩ := h.box k cs hk
      obtain ⟨e1, o1⟩ := hc.keep blk _ h2 h3 (hb k)
      refine ⟨blk, cur, e, hc.pre _ _ h1, Nat.lt_of_lt_of_le h2 hc.size, o1, e1.trans h4, h5, fun i c hi => ?_⟩
      obtain ⟨u, hu, h1c, hb'⟩ := h6 i c hi
      refine ⟨u, hu, h1c, hb'.chg hc (fun e => ?_)⟩
      obtain ⟨rfl, _⟩ := ht _ _ e
      exact hno cs hk

/-- What one place held has turned, or has gone elsewhere. -/
theorem Rel.spend {γ : List Nat} {ω ω' : Own} {w w' : World} {nt : Nat} {st : St} {a : Act} (h : Rel γ ω w nt st a) {p : Place} {sz : Nat} {m : MV} (hat : st.at p = .own sz m)
    (hc : Chg (fun x => x = p.owner) γ ω w γ ω' w') (hlt : ∀ b, w'.heap.size ≤ b → ω' b = none) : Rel γ ω' w' nt (st.spend p) a := by
  have hb : ∀ k, ¬ (Owner.box k = p.owner) := by intro k; cases p <;> simp [Place.owner]
  cases p with
  | slot s0 =>
    refine ⟨h.size, h.defers, hlt, h.boxes.chg hc rfl (fun k e => by simp [Place.owner] at e) (fun k i e => by simp [Place.owner] at e), fun s => ?_⟩
    show CtRep γ ω' w' _ a.tmps (.slot s) (lk (pt _ s0 _) s) _
    rw [lk_pt]
    by_cases hs : s0 = s
    · rw [if_pos hs]; trivial
    · rw [if_neg hs, lk_killS]
      by_cases hr : (lk st.v s).refs (.slot s0) = true
      · rw [if_pos hr]; trivial
      · rw [if_neg hr]
        refine slot_chg h hc (fun k e => hb k e) (fun e => hs (by simp [Place.owner] at e; exact e.symm)) (fun q sz' m' hq hqat => ?_)
        cases q with
        | slot s1 =>
          have hs1 : s0 ≠ s1 := fun e => hr (by rw [e]; exact hq)
          simp only [St.at, St.spend] at hqat ⊢
          rw [lk_pt, if_neg hs1, lk_killS, hqat]; simp [Ct.refs]
        | cell k o => exact hqat
  | cell k0 o0 =>
    obtain ⟨cs0, hk0, ho0⟩ := at_cell hat
    refine ⟨h.size, h.defers, hlt, ?_, fun s => ?_⟩
    · exact boxes_but h.boxes rfl hc (fun k e => hb k e) (fun k i e => by simp [Place.owner] at e; exact e) (fun u _ => trivial)
    · show CtRep γ ω' w' _ a.tmps (.slot s) (lk (killS _ st.v) s) _
      rw [lk_killS]
      by_cases hr : (lk st.v s).refs (.cell k0 o0) = true
      · rw [if_pos hr]; trivial
      · rw [if_neg hr]
        refine slot_chg h hc (fun k e => hb k e) (fun e => by simp [Place.owner] at e) (fun q sz' m' hq hqat => ?_)
        cases q with
        | slot s1 => simp only [St.at, St.spend] at hqat ⊢; rw [lk_killS, hqat]; simp [Ct.refs]
        | cell k o =>
          obtain ⟨cs, hk, ho⟩ := at_cell hqat
          have hB : setCt st.B k0 o0 .dead = st.B.set k0 (some (cs0.set o0 .dead)) := by simp [setCt, hk0]
          simp only [St.at, St.spend, hB, List.getElem?_set]
          by_cases hkk : k0 = k
          · subst hkk
            rw [hk0] at hk; injection hk with hk; injection hk with hk; subst hk
            have hoo : o0 ≠ o := fun e => hr (by rw [e]; exact hq)
            have : k0 < st.B.length := (List.getElem?_eq_some_iff.1 hk0).1
            simp [this, List.getElem?_set, hoo, ho]
          · simp [hkk, hk, ho]

/-- The block that a held value lies in. -/
def holdB : Value → Option Nat
  | .slice (some a) _ _ => some a.block
  | .map r => r
  | _ => none

/-- What a place holds is handed to another owner. -/
theorem Rel.take {γ : List Nat} {ω : Own} {w : World} {nt : Nat} {st : St} {a : Act} (h : Rel γ ω w nt st a) {p : Place} {sz : Nat} {m : MV} {v : Value} (hat : st.at p = .own sz m) (hv : p.cur γ a.tmps w v) (o' : Owner) (ho' : o' ≠ .outer) :
    ∃ ω', Chg NotOuter γ ω w γ ω' w ∧ Rel γ ω' w nt (st.spend p) a ∧ OwnRep γ ω' w o' sz m v := by
  have hown := cur_own h hat hv
  let ω' : Own := fun b => if holdB v = some b then some o' else ω b
  have hlab : ∀ b, holdB v = some b → ω b = some p.owner ∧ b < w.heap.size := by
    intro b hb
    cases hown with
    | list es _ e xs hr hcl ho =>
      cases v with
      | slice A n c => cases A with
        | none => simp [holdB] at hb
        | some ad => simp [holdB] at hb; exact ho b (by simp [Value.ownBlock, hb])
      | _ => rcases hr.2 with ⟨h1, _⟩ | ⟨g, cap, cur, h1, _⟩ <;> exact absurd h1 (by simp)
    | map m blk es clock ho hlt hb' he => simp [holdB] at hb; subst hb; exact ⟨ho, hlt⟩
  have hc : Chg (fun x => x = p.owner) γ ω w γ ω' w := by
    refine ⟨rfl, rfl, rfl, Nat.le_refl _, fun _ _ h => h, fun b _ h0 => ⟨rfl, ?_⟩, fun b o _ h0 hn => ⟨rfl, ?_⟩⟩
    · simp only [ω']
      split
      · rename_i hb; rw [(hlab b hb).1] at h0; exact absurd h0 (by simp)
      · exact h0
    · simp only [ω']
      split
      · rename_i hb; rw [(hlab b hb).1] at h0; injection h0 with h0; exact absurd h0.symm hn
      · exact h0
  have hne : p.owner ≠ .outer := by cases p <;> simp [Place.owner]
  have hlt : ∀ b, w.heap.size ≤ b → ω' b = none := by
    intro b hb
    simp only [ω']
    split
    · rename_i hb'; have := (hlab b hb').2; omega
    · exact h.lt b hb
  refine ⟨ω', hc.mono (fun o ho => by rw [ho]; exact hne), h.spend hat hc hlt, ?_⟩
  cases hown with
  | list es _ e xs hr hcl ho =>
    refine .list sz es v e xs hr (hcl.chg hc) (fun b hb => ⟨?_, (ho b hb).2⟩)
    have : holdB v = some b := by
      cases v <;> simp [Value.ownBlock] at hb
      rename_i A n c
      cases A with
      | none => simp [Value.ownBlock] at hb
      | some ad => simp [Value.ownBlock] at hb; simp [holdB, hb]
    simp [ω', this]
  | map m blk es clock ho hltb hb he => exact .map sz m blk es clock (by simp [ω', holdB]) hltb hb (he.chg hc)

/-! ### Assignment -/
def asgP (P : Program) (st : St) (ty : TypeId) (d : Nat) (x : Operand) (K : St → Prop) : Prop :=
  match x with
  | .tmp t => match lk st.v t with
    | .sh m => K (st.put d (.sh m))
    | .own sz m => if t = d then K st else K ((st.spend (.slot t)).put d (.own sz m))
    | .al p => if p = .slot d then K st else (match (st.retire p).at p with
      | .sh m => K ((st.retire p).put d (.sh m))
      | _ => False)
    | .eadr p i o => K (st.put d (.eadr p i o))
    | _ => False
  | .const v =>
    if isNilC (.const v) = true then (match kdOf P ty with
      | .slice e => K (st.put d (.own (szOf P e) (.list [])))
      | _ => False)
    else match mvConst v with
      | some m => K (st.put d (.sh m))
      | none => False
  | .func f => K (st.put d (.sh (.fn f [])))
  | .global _ => False

theorem retire_at {γ : List Nat} {ω : Own} {w : World} {nt : Nat} {st : St} {a : Act} (h : Rel γ ω w nt st a) {t : Nat} {p : Place} (hc : lk st.v t = .al p) {m : MV} (hm : (st.retire p).at p = .sh m) : lk (st.retire p).v t = .sh m := by
  have := h.slots t
  rw [hc] at this
  obtain ⟨⟨sz, m', h1⟩, _⟩ := this
  have e : m' = m := by
    unfold St.retire at hm
    simp only [h1] at hm
    cases p with
    | slot s => simp only [St.at, lk_pt, if_true] at hm; injection hm
    | cell k off =>
      obtain ⟨cs, hk, ho⟩ := at_cell h1
      have hl : k < st.B.length := (List.getElem?_eq_some_iff.1 hk).1
      have hlo : off < cs.length := (List.getElem?_eq_some_iff.1 ho).1
      have hB : setCt st.B k off (.sh m') = st.B.set k (some (cs.set off (.sh m'))) := by simp [setCt, hk]
      simp only [St.at, hB] at hm
      simp [hl, hlo] at hm
      exact hm
  subst e
  unfold St.retire
  simp only [h1]
  cases p with
  | slot s =>
    simp only [lk_pt]
    by_cases hs : s = t
    · rw [if_pos hs]
    · rw [if_neg hs, lk_retS, hc]; simp [retC]
  | cell k off => simp only [lk_retS, hc]; simp [retC]

theorem asg_ok {P : Program} {γ : List Nat} {ω : Own} {w : World} {nt : Nat} {st : St} {a : Act} (h : Rel γ ω w nt st a) {ty : TypeId} {d : Nat} (hd : d < nt) {x : Operand} {K : St → Prop} (hx : asgP P st ty d x K) :
    Does P nt γ ω w (a.put (some d) (a.eval x)) K := by
  cases x with
  | tmp t =>
    simp only [asgP] at hx
    split at hx
    · rename_i m hc
      exact ⟨ω, _, Chg.refl _ _ _ _, h.put hd (c := .sh m) (slot_rep h t hc), hx⟩
    · rename_i sz m hc
      split at hx
      · rename_i hs
        subst hs
        refine ⟨ω, st, Chg.refl _ _ _ _, ?_, hx⟩
        have : a.put (some t) (a.eval (.tmp t)) = a := by
          simp only [Act.put, Act.eval]
          have hlt : t < a.tmps.size := by rw [h.size]; exact hd
          have e1 : a.tmps.getD t undef = a.tmps[t] := by
            rw [Array.getD_eq_getD_getElem?, Array.getElem?_eq_getElem hlt]; rfl
          rw [e1, Array.setIfInBounds_def]
          simp [hlt]
        rw [this]; exact h
      · rename_i hs
        obtain ⟨ω', hcg, h1, h2⟩ := h.take (p := .slot t) (v := a.eval (.tmp t)) hc rfl (.slot d) (by simp)
        exact ⟨ω', _, hcg, h1.put hd (c := .own sz m) h2, hx⟩
    · rename_i p hc
      split at hx
      · rename_i hs
        subst hs
        have hv := h.slots t
        rw [hc] at hv
        have e : a.eval (.tmp t) = a.tmps.getD d undef := hv.2.symm
        refine ⟨ω, st, Chg.refl _ _ _ _, ?_, hx⟩
        have : a.put (some d) (a.eval (.tmp t)) = a := by
          rw [e]
          simp only [Act.put]
          have hlt : d < a.tmps.size := by rw [h.size]; exact hd
          have e1 : a.tmps.getD d undef = a.tmps[d] := by
            rw [Array.getD_eq_getD_getElem?, Array.getElem?_eq_getElem hlt]; rfl
          rw [e1, Array.setIfInBounds_def]
          simp [hlt]
        rw [this]; exact h
      · split at hx
        · rename_i m hm
          obtain ⟨ω', hcg, h1⟩ := h.retire p
          have hl := retire_at h hc hm
          exact ⟨ω', _, hcg, h1.put hd (c := .sh m) (slot_rep h1 t hl), hx⟩
        · exact hx.elim
    · rename_i p i o hc
      exact ⟨ω, _, Chg.refl _ _ _ _, h.put hd (c := .eadr p i o) (slot_rep h t hc), hx⟩
    · exact hx.elim
  | const v =>
    simp only [asgP] at hx
    split at hx
    · rename_i hnil
      have hv : v = .slice none 0 0 := by
        unfold isNilC at hnil
        split at hnil
        · rename_i heq; injection heq
        · exact absurd hnil (by simp)
      subst hv
      split at hx
      · rename_i e hk
        refine ⟨ω, _, Chg.refl _ _ _ _, h.put hd (c := .own (szOf P e) (.list [])) ?_, hx⟩
        exact OwnRep.list _ [] _ e [] (World.ownsRow_nil w 0 e (szOf P e)) ⟨by simp, by simp, by simp, by simp⟩ (fun b hb => by simp [Act.eval, Value.ownBlock] at hb)
      · exact hx.elim
    · split at hx
      · rename_i m hm
        exact ⟨ω, _, Chg.refl _ _ _ _, h.put hd (c := .sh m) (const_rep hm), hx⟩
      · exact hx.elim
  | func f =>
    simp only [asgP] at hx
    exact ⟨ω, _, Chg.refl _ _ _ _, h.put hd (c := .sh (.fn f [])) (Rep.fn f [] [] rfl (by simp)), hx⟩
  | global g => simp [asgP] at hx

end Go.Pv
