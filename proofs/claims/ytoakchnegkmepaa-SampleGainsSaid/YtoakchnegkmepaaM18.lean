/- A library of this session: stores into boxes. -/
import Derived.Test.YtoakchnegkmepaaM17
set_option linter.unusedVariables false
set_option linter.unusedSimpArgs false
namespace Go.Pv
section
variable {P : Program} {γ : List Nat} {ω : Own} {w : World} {nt : Nat} {st : St} {a : Act}

def noOwn : List Ct → Bool
  | [] => true
  | .own _ _ :: _ => false
  | _ :: r => noOwn r

theorem noOwn_get : ∀ {cs : List Ct}, noOwn cs = true → ∀ (i : Nat) (sz : Nat) (m : MV), cs[i]? ≠ some (.own sz m)
  | [], _, i, sz, m => by simp
  | c :: r, h, i, sz, m => by
    cases i with
    | zero =>
      intro e; simp at e; subst e; simp [noOwn] at h
    | succ i =>
      have : noOwn r = true := by cases c <;> simp [noOwn] at h <;> exact h
      simpa using noOwn_get this i sz m

def setR {α : Type} (cs ds : List α) (off : Nat) : List α := cs.take off ++ ds ++ cs.drop (off + ds.length)

theorem setR_get {α : Type} {cs ds : List α} {off : Nat} (h : off + ds.length ≤ cs.length) (i : Nat) : (setR cs ds off)[i]? = if i < off then cs[i]? else if i < off + ds.length then ds[i - off]? else cs[i]? := by
  have l0 : (cs.take off).length = off := by simp; omega
  unfold setR
  split
  · rename_i hi
    rw [List.append_assoc, List.getElem?_append_left (by omega), List.getElem?_take, if_pos hi]
  · rename_i hi
    rw [List.append_assoc, List.getElem?_append_right (by omega), l0]
    split
    · rename_i hi2
      rw [List.getElem?_append_left (by omega)]
    · rename_i hi2
      rw [List.getElem?_append_right (by omega), List.getElem?_drop]
      congr 1; omega

/-- The cells of a box turn; none of them was held. -/
theorem Rel.setBox (h : Rel γ ω w nt st a) {k : Nat} {cs : List Ct} (hk : st.B[k]? = some (some cs)) {off : Nat} {ds : List Ct} (ho : off + ds.length ≤ cs.length) (hno : noOwn ((cs.drop off).take ds.length) = true)
    {us : List Value} (hul : us.length = ds.length) (h1 : ∀ u ∈ us, u.oneCell' = true) (hbc : ∀ (i : Nat) (c : Ct) (u : Value), ds[i]? = some c → us[i]? = some u → BoxCt γ ω w k (off + i) c u) :
    ∃ blk cur e w', γ[k]? = some blk ∧ w.heap[blk]? = some (.cells cur e (0, 0)) ∧ cur.size = cs.length ∧ w' = w.setRow blk (cur.toList.take off ++ us ++ cur.toList.drop (off + us.length)).toArray ∧
      Chg (fun x => x = .box k) γ ω w γ ω w' ∧ Rel γ ω w' nt { st with B := st.B.set k (some (setR cs ds off)) } a := by
  obtain ⟨blk, cur, e, g1, g2, g3, g4, g5, g6⟩ := h.boxes.box k cs hk
  let w' := w.setRow blk (cur.toList.take off ++ us ++ cur.toList.drop (off + us.length)).toArray
  have hgb : ∀ b, b ≠ blk → w'.heap[b]? = w.heap[b]? := fun b hb => setRow_other w blk b _ hb
  have hsizew : w'.heap.size = w.heap.size := by simp [w', World.setRow]
  have hcg : Chg (fun x => x = Owner.box k) γ ω w γ ω w' := by
    refine ⟨rfl, rfl, rfl, by omega, fun _ _ h => h, fun b hb h0 => ⟨hgb b (fun e => ?_), h0⟩, fun b o hb h0 hn => ⟨hgb b (fun e => ?_), h0⟩⟩
    · subst e; rw [g3] at h0; exact absurd h0 (by simp)
    · subst e; rw [g3] at h0; injection h0 with h0; exact hn h0.symm
  have hnew : w'.heap[blk]? = some (.cells (cur.toList.take off ++ us ++ cur.toList.drop (off + us.length)).toArray e (0, 0)) := setRow_heap w blk cur _ e _ g4
  have hcl : cur.toList.length = cs.length := by rw [Array.length_toList]; exact g5
  have hcell : ∀ i : Nat, (cur.toList.take off ++ us ++ cur.toList.drop (off + us.length))[i]? = if i < off then cur.toList[i]? else if i < off + us.length then us[i - off]? else cur.toList[i]? := fun i => setR_get (cs := cur.toList) (ds := us) (by rw [hcl, hul]; exact ho) i
  have hB : ∀ (q : Place) (sz : Nat) (m : MV), st.at q = .own sz m → ({ st with B := st.B.set k (some (setR cs ds off)) } : St).at q = .own sz m ∧ (∀ o, q = .cell k o → o < off ∨ off + ds.length ≤ o) := by
    intro q sz m hq
    cases q with
    | slot s => exact ⟨hq, fun o e => by simp at e⟩
    | cell k' o =>
      obtain ⟨cs', q1, q2⟩ := at_cell hq
      simp only [St.at, List.getElem?_set]
      have hkl : k < st.B.length := (List.getElem?_eq_some_iff.1 hk).1
      by_cases hkk : k = k'
      · subst hkk
        rw [hk] at q1; injection q1 with q1; injection q1 with q1; subst q1
        have hout : o < off ∨ off + ds.length ≤ o := by
          rcases Nat.lt_or_ge o off with h1 | h1
          · exact .inl h1
          · rcases Nat.lt_or_ge o (off + ds.length) with h2 | h2
            · exfalso
              refine noOwn_get hno (o - off) sz m ?_
              rw [List.getElem?_take, if_pos (by omega), List.getElem?_drop, show off + (o - off) = o from by omega]; exact q2
            · exact .inr h2
        refine ⟨?_, fun o' e => by injection e with _ e; subst e; exact hout⟩
        simp only [hkl, if_true]
        rw [setR_get ho]
        rcases hout with h1 | h1
        · simp [h1, q2]
        · have n1 : ¬ o < off := by omega
          have n2 : ¬ o < off + ds.length := by omega
          simp [n1, n2, q2]
      · exact ⟨by simp [hkk, q1, q2], fun o' e => by injection e with e1 _; exact absurd e1.symm hkk⟩
  have hcur : ∀ (q : Place) (sz : Nat) (m : MV) (u : Value), st.at q = .own sz m → q.cur γ a.tmps w u → q.cur γ a.tmps w' u := by
    intro q sz m u hq hu
    cases q with
    | slot s => exact hu
    | cell k' o =>
      obtain ⟨b, r1, r2⟩ := hu
      refine ⟨b, r1, ?_⟩
      by_cases hb : b = blk
      · subst hb
        -- the box is the same one
        obtain ⟨cs', q1, q2⟩ := at_cell hq
        obtain ⟨b2, u2, s1, s2, s3, s4, _⟩ := cell_box h.boxes q1 q2
        rw [r1] at s1; injection s1 with s1; subst s1
        rw [g3] at s3; injection s3 with s3; injection s3 with s3; subst s3
        have hout := (hB _ sz m hq).2 o rfl
        simp only [World.cell?, hnew]
        simp only [World.cell?, g4] at r2
        simp at r2
        simp only [Option.isSome_none, Bool.false_eq_true, if_false, List.getElem?_toArray]
        rw [hcell]
        rcases hout with h1 | h1
        · rw [if_pos h1]; simpa using r2
        · rw [if_neg (by omega), if_neg (by omega)]; simpa using r2
      · rw [cell_of_heap (hgb b hb)]; exact r2
  refine ⟨blk, cur, e, w', g1, g4, g5, rfl, hcg, h.size, h.defers, fun b hb => h.lt b (by omega), ⟨?_, fun k' cs' hk' => ?_⟩, fun s => ?_⟩
  · simp; exact h.boxes.len
  · rw [List.getElem?_set] at hk'
    have hkl : k < st.B.length := (List.getElem?_eq_some_iff.1 hk).1
    by_cases hkk : k = k'
    · subst hkk
      simp [hkl] at hk'
      subst hk'
      refine ⟨blk, _, e, g1, by omega, g3, hnew, ?_, fun i c hi => ?_⟩
      · simp [setR, hul]; omega
      · rw [setR_get ho] at hi
        simp only [List.getElem?_toArray]
        rw [hcell, hul]
        split at hi
        · rename_i hlt
          rw [if_pos hlt]
          obtain ⟨u, p1, p2, p3⟩ := g6 i c hi
          exact ⟨u, by simpa using p1, p2, p3.chg hcg (by simp)⟩
        · rename_i hge
          rw [if_neg hge]
          split at hi
          · rename_i hlt
            rw [if_pos hlt]
            have hiu : i - off < us.length := by omega
            refine ⟨us[i - off], List.getElem?_eq_getElem hiu, h1 _ (List.getElem_mem hiu), ?_⟩
            have := hbc (i - off) c _ hi (List.getElem?_eq_getElem hiu)
            rw [show off + (i - off) = i from by omega] at this
            exact this.chg hcg (by simp)
          · rename_i hge2
            rw [if_neg hge2]
            obtain ⟨u, p1, p2, p3⟩ := g6 i c hi
            exact ⟨u, by simpa using p1, p2, p3.chg hcg (by simp)⟩
    · simp [hkk] at hk'
      obtain ⟨b, cur', e', p1, p2, p3, p4, p5, p6⟩ := h.boxes.box k' cs' hk'
      have hbne : b ≠ blk := by
        intro e; subst e; rw [g3] at p3; injection p3 with p3; injection p3 with p3; exact hkk p3
      exact ⟨b, cur', e', p1, by omega, p3, (hgb b hbne).trans p4, p5, fun i c hi => by obtain ⟨u, v1, v2, v3⟩ := p6 i c hi; exact ⟨u, v1, v2, v3.chg hcg (by simp)⟩⟩
  · have hold := h.slots s
    cases hcs : lk st.v s with
    | al q =>
      rw [hcs] at hold
      obtain ⟨⟨sz, m, r1⟩, r2⟩ := hold
      exact ⟨⟨sz, m, (hB q sz m r1).1⟩, hcur q sz m _ r1 r2⟩
    | eadr q i o =>
      rw [hcs] at hold
      obtain ⟨sz, es, u, b, r1, r2, r3, r4, r5⟩ := hold
      exact ⟨sz, es, u, b, (hB q sz _ r1).1, r2, hcur q sz _ _ r1 r3, r4, r5⟩
    | sh m' => rw [hcs] at hold; exact Rep.chg hcg hold
    | own sz' m' => rw [hcs] at hold; exact OwnRep.chg hcg (by simp) hold
    | tupc cs2 => rw [hcs] at hold; exact CtRep.chg (st := st) hcg (by simp) hold (fun q u hq => by simp [Ct.refs] at hq)
    | siter s' pos => rw [hcs] at hold; exact CtRep.chg (st := st) hcg (by simp) hold (fun q u hq => by simp [Ct.refs] at hq)
    | dead => trivial

/-- A store into a box. -/
def stoB (P : Program) (st : St) (T : TypeId) (ad x : Operand) (K : St → Prop) : Prop :=
  match shv (retO st x) ad with
  | some (.ptr k off) => match (retO st x).B[k]? with
    | some (some cs) => match shv (retO st x) x with
      | some m => (∀ vs, m ≠ .tup vs) ∧ (cellsM m).length = szOf P T ∧ szOf P T ≠ 0 ∧ off + szOf P T ≤ cs.length ∧ noOwn ((cs.drop off).take (cellsM m).length) = true ∧
          K { (retO st x) with B := (retO st x).B.set k (some (setR cs ((cellsM m).map .sh) off)) }
      | none => False
    | _ => False
  | _ => False

theorem stoB_ok (h : Rel γ ω w nt st a) {T : TypeId} {ad x : Operand} {K : St → Prop} (hx : stoB P st T ad x K) :
    ∃ w', (Instr.storeAt T (a.eval ad) (a.eval x)).run P w = .ok () w' ∧ ∃ ω' st', Chg NotOuter γ ω w γ ω' w' ∧ Rel γ ω' w' nt st' a ∧ K st' := by
  unfold stoB at hx
  split at hx
  · rename_i k off hp
    split at hx
    · rename_i cs hk
      split at hx
      · rename_i m hm
        obtain ⟨ht, hlen, hne, hoff, hno, hK⟩ := hx
        obtain ⟨ω1, hc1, hR⟩ := h.retO x
        obtain ⟨us, g1, g2, g3, g4⟩ := cellsM_ok (shv_rep hR hm) ht
        obtain ⟨ti, hti, hts⟩ := szOf_ne hne
        have hap := shv_rep hR hp
        obtain ⟨blk0, ha, hg0⟩ : ∃ blk, a.eval ad = .pointer (some ⟨blk, off, none⟩) ∧ γ[k]? = some blk := by
          generalize a.eval ad = v at hap
          cases hap with
          | ptr _ _ blk hb => exact ⟨blk, rfl, hb⟩
        obtain ⟨blk, cur, e, w', q1, q2, q3, q4, q5, q6⟩ := hR.setBox hk (off := off) (ds := (cellsM m).map .sh) (by simp; omega) (by simpa using hno) (us := us) (by simp [g2]) g3
          (fun i c u hi hu => by
            rw [List.getElem?_map] at hi
            cases hci : (cellsM m)[i]? with
            | none => rw [hci] at hi; simp at hi
            | some c0 => rw [hci] at hi; simp at hi; subst hi; exact g4 i c0 u hci hu)
        rw [hg0] at q1; injection q1 with q1; subst q1
        have hrun := run_storeT (P := P) (ty_of hti) (w := w) (g := blk0) (o := off) (e := e) (cur := cur) q2 g1 (by omega) (by omega) g3
        refine ⟨w', by rw [ha, q4]; exact hrun, ω1, _, hc1.trans (q5.mono (fun o ho => by rw [ho]; simp [NotOuter])), q6, hK⟩
      · exact hx.elim
    · exact hx.elim
  · exact hx.elim

end
end Go.Pv
