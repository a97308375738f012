/- The library of this work, H texts, part F2: a variable that is not assigned any more. -/
import Derived.Test.YtlfbfhgoehndpaaGreatDoorHF
set_option linter.unusedVariables false
set_option linter.unusedSimpArgs false
namespace Go.Pv

mutual
/-- What leads to the variable k holds its cells. -/
def frz (k : Nat) (ds : List MV) : MV → MV
  | .ptr j o => match Nat.beq j k with
    | true => .cptr ds o
    | false => .ptr j o
  | .agg cs => .agg (frzL k ds cs)
  | .tup cs => .tup (frzL k ds cs)
  | .fn f cs => .fn f (frzL k ds cs)
  | x => x
def frzL (k : Nat) (ds : List MV) : List MV → List MV
  | [] => []
  | x :: r => frz k ds x :: frzL k ds r
end
def frzV (k : Nat) (ds : List MV) : List (Nat × MV) → List (Nat × MV)
  | [] => []
  | (s, x) :: r => (s, frz k ds x) :: frzV k ds r
def frzB (k : Nat) (ds : List MV) : Bxs → Bxs
  | [] => []
  | some (.box cs) :: r => some (.box (frzL k ds cs)) :: frzB k ds r
  | o :: r => o :: frzB k ds r
def St.frz (st : St) (k : Nat) (ds : List MV) : St := ⟨frzV k ds st.v, frzB k ds (st.B.set k none)⟩

theorem lk_frzV (k : Nat) (m : List MV) (v : List (Nat × MV)) (s : Nat) : lk (frzV k m v) s = frz k m (lk v s) := by
  induction v with
  | nil => simp [frzV, lk, frz]
  | cons x r ih =>
    obtain ⟨j, c⟩ := x
    by_cases h : j = s
    · simp [frzV, lk, h]
    · simp only [frzV, lk, h, if_false]; exact ih
theorem frzL_get (k : Nat) (m : List MV) : ∀ (l : List MV) (i : Nat), (frzL k m l)[i]? = (l[i]?).map (frz k m)
  | [], i => by simp [frzL]
  | x :: r, 0 => by simp [frzL]
  | x :: r, i + 1 => by simp [frzL, frzL_get k m r i]
theorem frzL_len (k : Nat) (m : List MV) : ∀ (l : List MV), (frzL k m l).length = l.length
  | [] => by simp [frzL]
  | x :: r => by simp [frzL, frzL_len k m r]

theorem Rep.frz {γ : List Value} {ω : Own} {w : World} {k : Nat} {ds : List MV} (hm : ∀ o blk, γ[k]? = some (.pointer (some ⟨blk, 0, none⟩)) → Rep γ ω w (.cptr ds o) (.pointer (some ⟨blk, o, none⟩))) {c : MV} {v : Value} (h : Rep γ ω w c v) : Rep γ ω w (Go.Pv.frz k ds c) v := by
  induction h with
  | agg cs vs hl _ h1 ih =>
    simp only [Go.Pv.frz]
    refine .agg _ vs (by rw [frzL_len]; exact hl) (fun i c u hc hu => ?_) h1
    rw [frzL_get] at hc
    cases hi : cs[i]? with
    | none => rw [hi] at hc; simp at hc
    | some c0 => rw [hi] at hc; simp at hc; subst hc; exact ih i c0 u hi hu
  | tup cs vs hl _ ih =>
    simp only [Go.Pv.frz]
    refine .tup _ vs (by rw [frzL_len]; exact hl) (fun i c u hc hu => ?_)
    rw [frzL_get] at hc
    cases hi : cs[i]? with
    | none => rw [hi] at hc; simp at hc
    | some c0 => rw [hi] at hc; simp at hc; subst hc; exact ih i c0 u hi hu
  | fn f cs vs hl _ ih =>
    simp only [Go.Pv.frz]
    refine .fn f _ vs (by rw [frzL_len]; exact hl) (fun i c u hc hu => ?_)
    rw [frzL_get] at hc
    cases hi : cs[i]? with
    | none => rw [hi] at hc; simp at hc
    | some c0 => rw [hi] at hc; simp at hc; subst hc; exact ih i c0 u hi hu
  | ptr b off blk hb =>
    simp only [Go.Pv.frz]
    split
    · rename_i hbk
      have := Nat.eq_of_beq_eq_true hbk
      subst this; exact hm off blk hb
    · exact .ptr b off blk hb
  | ref b v hb h1 h2 => exact .ref b v hb h1 h2
  | bool b => exact .bool b
  | int k n => exact .int k n
  | str s => exact .str s
  | list es sz blk o cap us hcap hω hlt hsz hn hcell h ih => exact .list es sz blk o cap us hcap hω hlt hsz hn hcell h
  | list0 a cap => exact .list0 a cap
  | nil => exact .nil
  | nilfn => exact .nilfn
  | eref b sz i off blk len cap hb => exact .eref b sz i off blk len cap hb
  | cptr cs off blk o us hω hlt hn hcell h _ => exact .cptr cs off blk o us hω hlt hn hcell h
  | nilptr => exact .nilptr
  | map m blk es clock hω hb hl hn hk h hlt hbn hnd hh _ => exact .map m blk es clock hω hb hl hn hk h hlt hbn hnd hh
  | map0 => exact .map0
  | ifc t c v h _ => exact .ifc t c v h
  | nilifc => exact .nilifc
  | seq f c blk u hω hlt hn hcell h1 h _ => exact .seq f c blk u hω hlt hn hcell h1 h
  | gone v => exact .gone v

theorem frzB_len (k : Nat) (m : List MV) : ∀ B : Bxs, (frzB k m B).length = B.length
  | [] => rfl
  | some (.box cs) :: r => by simp [frzB, frzB_len k m r]
  | some (.row _ _ _ _) :: r => by simp [frzB, frzB_len k m r]
  | some (.map _ _ _) :: r => by simp [frzB, frzB_len k m r]
  | some (.siter _ _) :: r => by simp [frzB, frzB_len k m r]
  | some (.miter _) :: r => by simp [frzB, frzB_len k m r]
  | some (.bld _) :: r => by simp [frzB, frzB_len k m r]
  | none :: r => by simp [frzB, frzB_len k m r]
theorem frzB_get (k : Nat) (m : List MV) : ∀ (B : Bxs) (j : Nat) (o : Ob), (frzB k m B)[j]? = some (some o) → B[j]? = some (some o) ∨ ∃ cs, B[j]? = some (some (.box cs)) ∧ o = .box (frzL k m cs)
  | [], j, o, h => by simp [frzB] at h
  | x :: r, 0, o, h => by
    cases x with
    | none => simp [frzB] at h
    | some x => cases x <;> simp [frzB] at h <;> subst h <;> first | exact .inr ⟨_, rfl, rfl⟩ | exact .inl rfl
  | x :: r, j + 1, o, h => by
    have : (frzB k m r)[j]? = some (some o) := by
      cases x with
      | none => simpa [frzB] using h
      | some x => cases x <;> simpa [frzB] using h
    simpa using frzB_get k m r j o this

section
variable {P : Program} {γ γ' : List Value} {ω ω' : Own} {w w' : World} {nt : Nat} {st st' : St} {a : Act}
theorem Rel.frz (h : Rel γ ω w nt st a) {k : Nat} {ds : List MV} (hk : st.B[k]? = some (some (.box ds))) (hnp : npL ds = true) : ∃ ω', Chg NotOuter γ ω w γ ω' w ∧ Rel γ ω' w nt (st.frz k ds) a := by
  obtain ⟨hd, g1, blk, cur, e, p1, p2, p3, p4, p5, p6⟩ := h.objs k _ hk
  let ω' : Own := fun b => match ω b with
    | some (.ob j p) => if j = k then none else some (.ob j p)
    | x => x
  have hn : ∀ b, ω b = none → ω' b = none := fun b hb => by simp [ω', hb]
  have hN : ∀ p b, ω b = some (.ob k p) → ω' b = none := fun p b hb => by simp [ω', hb]
  have hc : Chg (fun o => ∃ p, o = .ob k p) γ ω w γ ω' w := by
    refine ⟨rfl, rfl, rfl, Nat.le_refl _, fun _ _ h => h, fun b _ h0 => ⟨rfl, hn b h0⟩, fun b o _ h0 hno => ⟨rfl, ?_⟩⟩
    cases o with
    | ob j p =>
      simp only [ω', h0]
      rw [if_neg (fun e => hno ⟨p, by rw [e]⟩)]
    | outer => simp only [ω', h0]
  have hlt : ∀ b, w.heap.size ≤ b → ω' b = none := fun b hb => hn b (h.lt b hb)
  have hR := h.turn hc hlt (B' := st.B.set k none) (by simp [h.len]) (fun j o' hj => by
    rw [List.getElem?_set] at hj
    by_cases e : k = j
    · subst e; split at hj
      · split at hj <;> simp at hj
      · rename_i hne; exact absurd rfl hne
    · rw [if_neg e] at hj
      exact .inl ⟨hj, fun p ⟨q, hq⟩ => by injection hq with hq; exact e hq.symm⟩)
  have hmv : ∀ o b, γ[k]? = some (.pointer (some ⟨b, 0, none⟩)) → Rep γ ω' w (.cptr ds o) (.pointer (some ⟨b, o, none⟩)) := fun o b hv => by
    rw [g1] at hv; injection hv with hv; subst p1
    injection hv with hv; injection hv with hv; injection hv with hv; subst hv
    have := Rep.cptr (γ := γ) (ω := ω') (w := w) ds o blk 0 (fun i => (cur[i]?).getD undef) (hN [] blk p3) p2 hnp (fun i c hi => by
      obtain ⟨u, r1, r2, r3⟩ := p6 i c hi
      rw [r1, Nat.zero_add]
      refine ⟨?_, r2⟩
      simp [World.cell?, p4, r1]) (fun i c hi => by
      obtain ⟨u, r1, r2, r3⟩ := p6 i c hi
      rw [r1]
      exact r3.chg hc)
    rw [Nat.zero_add] at this; exact this
  refine ⟨ω', hc.mono (fun o ⟨p, hp⟩ => by rw [hp]; simp), ⟨hR.size, hR.defers, hR.lt, hR.gl, by rw [hR.len]; exact (frzB_len k ds _).symm, fun s => ?_, fun j o' hj => ?_⟩⟩
  · show Rep γ ω' w (lk (frzV k ds st.v) s) _
    rw [lk_frzV]
    exact (hR.slots s).frz hmv
  · rcases frzB_get k ds _ j o' hj with h1 | ⟨cs, h1, rfl⟩
    · exact hR.objs j o' h1
    · obtain ⟨hd', q1, blk, cur, e, q2, q3, q4, q5, q6, q7⟩ := hR.objs j _ h1
      refine ⟨hd', q1, blk, cur, e, q2, q3, q4, q5, by rw [frzL_len]; exact q6, fun i c hi => ?_⟩
      rw [frzL_get] at hi
      cases hci : cs[i]? with
      | none => rw [hci] at hi; simp at hi
      | some c0 =>
        rw [hci] at hi; simp at hi; subst hi
        obtain ⟨u, r1, r2, r3⟩ := q7 i c0 hci
        exact ⟨u, r1, r2, r3.frz hmv⟩
end
end Go.Pv
