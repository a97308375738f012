/- The library of this work, H texts, part L: objects by other numbers; contracts; calls. -/
import Derived.Test.YtlfbfhgoehndpaaGreatDoorHKc
import Derived.Test.YtlfbfhgoehndpaaGreatDoorHKs
import Derived.Test.YtlfbfhgoehndpaaGreatDoorHFz
import Derived.Test.YtlfbfhgoehndpaaGreatDoorHKo
set_option linter.unusedVariables false
set_option linter.unusedSimpArgs false
namespace Go.Pv

/-! ### Other numbers -/
abbrev Ren := List (Nat × Nat)
mutual
def ren (π : Ren) : MV → MV
  | .ptr k o => (match lkN π k with
    | some k' => .ptr k' o
    | none => .gone)
  | .ref k => (match lkN π k with
    | some k' => .ref k'
    | none => .gone)
  | .eref k sz i o => (match lkN π k with
    | some k' => .eref k' sz i o
    | none => .gone)
  | .agg cs => .agg (renL π cs)
  | .tup cs => .tup (renL π cs)
  | .fn f cs => .fn f (renL π cs)
  | .ifc t c => .ifc t (ren π c)
  | m => m
def renL (π : Ren) : List MV → List MV
  | [] => []
  | m :: r => ren π m :: renL π r
end
def renO (π : Ren) : Ob → Ob
  | .box cs => .box (renL π cs)
  | o => o
/-- Objects that have no focus. -/
def plainO : Ob → Bool
  | .row _ _ _ [] => true
  | .row _ _ _ _ => false
  | .map _ _ [] => true
  | .map _ _ _ => false
  | _ => true

theorem renL_get (π : Ren) : ∀ (l : List MV) (i : Nat), (renL π l)[i]? = (l[i]?).map (ren π)
  | [], i => by simp [renL]
  | x :: r, 0 => by simp [renL]
  | x :: r, i + 1 => by simp [renL, renL_get π r i]
theorem renL_len (π : Ren) : ∀ (l : List MV), (renL π l).length = l.length
  | [] => by simp [renL]
  | x :: r => by simp [renL, renL_len π r]

theorem Rep.ren {γ γ' : List Value} {ω : Own} {w : World} {π : Ren} (hπ : ∀ k k' v, lkN π k = some k' → γ[k]? = some v → γ'[k']? = some v) {m : MV} {v : Value} (h : Rep γ ω w m v) : Rep γ' ω w (Go.Pv.ren π m) v := by
  induction h with
  | bool b => exact .bool b
  | int k n => exact .int k n
  | str s => exact .str s
  | agg cs vs hl _ h1 ih =>
    simp only [Go.Pv.ren]
    refine .agg _ vs (by rw [renL_len]; exact hl) (fun i c u hc hu => ?_) h1
    rw [renL_get] at hc
    cases hi : cs[i]? with
    | none => rw [hi] at hc; simp at hc
    | some c0 => rw [hi] at hc; simp at hc; subst hc; exact ih i c0 u hi hu
  | tup cs vs hl _ ih =>
    simp only [Go.Pv.ren]
    refine .tup _ vs (by rw [renL_len]; exact hl) (fun i c u hc hu => ?_)
    rw [renL_get] at hc
    cases hi : cs[i]? with
    | none => rw [hi] at hc; simp at hc
    | some c0 => rw [hi] at hc; simp at hc; subst hc; exact ih i c0 u hi hu
  | fn f cs vs hl _ ih =>
    simp only [Go.Pv.ren]
    refine .fn f _ vs (by rw [renL_len]; exact hl) (fun i c u hc hu => ?_)
    rw [renL_get] at hc
    cases hi : cs[i]? with
    | none => rw [hi] at hc; simp at hc
    | some c0 => rw [hi] at hc; simp at hc; subst hc; exact ih i c0 u hi hu
  | list es sz blk o cap us hcap hω hlt hsz hn hcell h ih => exact (Rep.list (γ := γ) es sz blk o cap us hcap hω hlt hsz hn hcell h).npg rfl
  | list0 a cap => exact .list0 a cap
  | nil => exact .nil
  | nilfn => exact .nilfn
  | ptr b off blk hb =>
    simp only [Go.Pv.ren]
    split
    · rename_i k' hk; exact .ptr _ off blk (hπ _ _ _ hk hb)
    · exact .gone _
  | ref b v hb h1 h2 =>
    simp only [Go.Pv.ren]
    split
    · rename_i k' hk; exact .ref _ v (hπ _ _ _ hk hb) h1 h2
    · exact .gone _
  | eref b sz i off blk len cap hb =>
    simp only [Go.Pv.ren]
    split
    · rename_i k' hk; exact .eref _ sz i off blk len cap (hπ _ _ _ hk hb)
    · exact .gone _
  | cptr cs off blk o us hω hlt hn hcell h _ => exact (Rep.cptr (γ := γ) cs off blk o us hω hlt hn hcell h).npg rfl
  | nilptr => exact .nilptr
  | map m blk es clock hω hb hl hn hk h hlt hbn hnd hh _ => exact (Rep.map (γ := γ) m blk es clock hω hb hl hn hk h hlt hbn hnd hh).npg rfl
  | map0 => exact .map0
  | ifc t c v _ ih => exact .ifc t _ v ih
  | nilifc => exact .nilifc
  | seq f c blk u hω hlt hn hcell h1 h _ => exact (Rep.seq (γ := γ) f c blk u hω hlt hn hcell h1 h).npg rfl
  | gone v => exact .gone v

theorem CellT.gam {γ : List Value} (γ' : List Value) {ω : Own} {w : World} {N : List (Nat × Nat) → Owner} {m : MV} {v : Value} (h : CellT γ ω w N m v) : CellT γ' ω w N m v := by
  induction h with
  | rep N m v hn h => exact .rep N m v hn (h.npg hn)
  | row N dp sz es v e xs us hr hl hw h1 hx _ hd ho ih => exact .row N dp sz es v e xs us hr hl hw h1 hx ih hd ho
  | map N dp sz m blk es clock ho hlt hb hl hk _ hbn hnd hh hd ih => exact .map N dp sz m blk es clock ho hlt hb hl hk ih hbn hnd hh hd

theorem ObR.ren {γ γ' : List Value} {ω ω' : Own} {w : World} {π : Ren} {k k' : Nat} {o : Ob} {hd : Value} (hp : plainO o = true) (hπ : ∀ k k' v, lkN π k = some k' → γ[k]? = some v → γ'[k']? = some v) (hn : ∀ b, ω b = none → ω' b = none) (hN : ∀ p b, ω b = some (.ob k p) → ω' b = some (.ob k' p))
    (h : ObR γ ω w k o hd) : ObR γ' ω' w k' (renO π o) hd := by
  have hk : Keeps γ ω w γ ω' w := ⟨fun _ _ h => h, Nat.le_refl _, fun b _ h0 => ⟨rfl, hn b h0⟩⟩
  have h1 := h.moved hk (k' := k') (fun p b _ h0 => ⟨rfl, hN p b h0⟩)
  cases o with
  | box cs =>
    obtain ⟨blk, cur, e, g1, g2, g3, g4, g5, g6⟩ := h1
    refine ⟨blk, cur, e, g1, g2, g3, g4, by rw [renL_len]; exact g5, fun i c hi => ?_⟩
    rw [renL_get] at hi
    cases hci : cs[i]? with
    | none => rw [hci] at hi; simp at hi
    | some c0 =>
      rw [hci] at hi; simp at hi; subst hi
      obtain ⟨u, r1, r2, r3⟩ := g6 i c0 hci
      exact ⟨u, r1, r2, r3.ren hπ⟩
  | row dp sz es foc =>
    cases foc with
    | cons f r => simp [plainO] at hp
    | nil =>
      obtain ⟨e, xs, g⟩ := h1
      refine ⟨e, xs, g.own, g.len, g.wid, g.one, fun j y i c hj hi => ?_, g.blk⟩
      obtain ⟨u, r1, r2⟩ := g.cell j y i c hj hi
      simp only [lkF] at r2 ⊢
      exact ⟨u, r1, r2.1, r2.2.gam γ'⟩
  | map dp m foc =>
    cases foc with
    | cons f r => simp [plainO] at hp
    | nil =>
      obtain ⟨blk, es, clock, g1, g⟩ := h1
      refine ⟨blk, es, clock, g1, g.own, g.lt, g.heap, g.len, g.key, fun i x e hx he => ?_, g.born, g.nodup, g.same⟩
      have r := g.val i x e hx he
      simp only [lkK] at r ⊢
      exact ⟨r.1, r.2.gam γ'⟩
  | siter s pos => exact h1
  | bld s => exact h1
  | miter rem =>
    obtain ⟨blk, mb, since, seen, last, g1, g2, g3, g4, g5⟩ := h1
    refine ⟨blk, mb, since, seen, last, g1, g2, g3, g4, ?_⟩
    rcases g5 with g5 | ⟨b, es, r1, r2, r3, r4, r5, r6, r7, r8⟩
    · exact .inl g5
    · exact .inr ⟨b, es, r1, r2, r3, r4, r5, r6, r7, fun i x e hx he => ⟨(r8 i x e hx he).1, (r8 i x e hx he).2.1, (r8 i x e hx he).2.2.npg (r8 i x e hx he).2.1⟩⟩

/-! ### Contracts -/
def Objs (γ : List Value) (ω : Own) (w : World) (B : Bxs) : Prop := ∀ (k : Nat) (o : Ob), B[k]? = some (some o) → ∃ hd, γ[k]? = some hd ∧ ObR γ ω w k o hd
def ResR (γ : List Value) (ω : Own) (w : World) (r : Res) (v : Value) : Prop := match r with
  | [m] => Rep γ ω w m v
  | ms => ∃ vs : List Value, v = .tuple vs.toArray ∧ vs.length = ms.length ∧ ∀ (i : Nat) (c : MV) (u : Value), ms[i]? = some c → vs[i]? = some u → Rep γ ω w c u
def resV : Res → MV
  | [m] => m
  | ms => .tup ms
theorem ResR.rep {γ : List Value} {ω : Own} {w : World} {r : Res} {v : Value} (h : ResR γ ω w r v) : Rep γ ω w (resV r) v := by
  match r, h with
  | [], h => obtain ⟨vs, h1, h2, h3⟩ := h; subst h1; exact .tup _ vs h2 h3
  | [m], h => exact h
  | _ :: _ :: _, h => obtain ⟨vs, h1, h2, h3⟩ := h; subst h1; exact .tup _ vs h2 h3
theorem ResR.of {γ : List Value} {ω : Own} {w : World} {r : Res} {v : Value} (h : Rep γ ω w (resV r) v) : ResR γ ω w r v := by
  match r, h with
  | [], h => cases h with | tup _ vs h2 h3 => exact ⟨vs, rfl, h2, h3⟩
  | [m], h => exact h
  | _ :: _ :: _, h => cases h with | tup _ vs h2 h3 => exact ⟨vs, rfl, h2, h3⟩

/-- THE CONTRACT: called with these values and objects the function hands back those; what is not its own stays. -/
def SpecB (P : Program) (f : FuncId) (args : List MV) (B : Bxs) (r : Res) (B' : Bxs) : Prop :=
  (∀ (avs : Array Value) (w : World), (callFunc f avs).run P w = .ok (.enter f avs) w) ∧ ∀ (γ : List Value) (ω : Own) (w : World) (vs : List Value), vs.length = args.length → (∀ (i : Nat) (c : MV) (v : Value), args[i]? = some c → vs[i]? = some v → Rep γ ω w c v) →
    (∀ b, w.heap.size ≤ b → ω b = none) → GOk ω w → γ.length = B.length → (∀ b k p, ω b = some (.ob k p) → k < B.length) → Objs γ ω w B →
    Calls P f vs.toArray w fun e w' => ∃ v γ' ω', e = .returned v ∧ Chg NotOuter γ ω w γ' ω' w' ∧ (∀ b, w'.heap.size ≤ b → ω' b = none) ∧ γ'.length = B'.length ∧
      (∀ b k p, ω' b = some (.ob k p) → k < B'.length) ∧ Objs γ' ω' w' B' ∧ ResR γ' ω' w' r v ∧ ∀ o, some o ∈ B' → plainO o = true

/-- Which function does an operand name, and what has it captured? -/
def fnOf (st : St) : Operand → Option (FuncId × List MV)
  | .func f => some (f, [])
  | .tmp t => match lk st.v t with
    | .fn f cs => some (f, cs)
    | _ => none
  | _ => none

theorem fnOf_ok {γ : List Value} {ω : Own} {w : World} {nt : Nat} {st : St} {a : Act} (h : Rel γ ω w nt st a) {f : Operand} {g : FuncId} {cs : List MV} (hf : fnOf st f = some (g, cs)) : ∃ vs : List Value, a.eval f = .func (.func g) #[] vs.toArray ∧ vs.length = cs.length ∧ ∀ (i : Nat) (c : MV) (v : Value), cs[i]? = some c → vs[i]? = some v → Rep γ ω w c v := by
  cases f with
  | func f => simp only [fnOf, Option.some.injEq, Prod.mk.injEq] at hf; obtain ⟨rfl, rfl⟩ := hf; exact ⟨[], rfl, rfl, by simp⟩
  | tmp t =>
    simp only [fnOf] at hf
    split at hf
    · rename_i f' cs' hc
      injection hf with hf; injection hf with h1 h2; subst h1; subst h2
      have hr := h.slot t hc
      generalize a.eval (.tmp t) = v at hr ⊢
      cases hr with
      | fn _ _ vs hl hh => exact ⟨vs, rfl, hl, hh⟩
    · exact absurd hf (by simp)
  | _ => simp [fnOf] at hf

theorem app_get {cs ds : List MV} {vs us : List Value} (hl : vs.length = cs.length) {R : MV → Value → Prop} (h1 : ∀ (i : Nat) (c : MV) (v : Value), cs[i]? = some c → vs[i]? = some v → R c v) (h2 : ∀ (i : Nat) (c : MV) (v : Value), ds[i]? = some c → us[i]? = some v → R c v) :
    ∀ (i : Nat) (c : MV) (v : Value), (cs ++ ds)[i]? = some c → (vs ++ us)[i]? = some v → R c v := by
  intro i c v hc hv
  rcases Nat.lt_or_ge i cs.length with hi | hi
  · rw [List.getElem?_append_left hi] at hc
    rw [List.getElem?_append_left (by omega)] at hv
    exact h1 i c v hc hv
  · rw [List.getElem?_append_right hi] at hc
    rw [List.getElem?_append_right (by omega), hl] at hv
    exact h2 _ c v hc hv

/-! ### The objects of a call -/
mutual
def idsM : MV → List Nat
  | .ptr k _ => [k]
  | .ref k => [k]
  | .eref k _ _ _ => [k]
  | .agg cs => idsL cs
  | .tup cs => idsL cs
  | .fn _ cs => idsL cs
  | .ifc _ c => idsM c
  | _ => []
def idsL : List MV → List Nat
  | [] => []
  | m :: r => idsM m ++ idsL r
end
def idsO : Ob → List Nat
  | .box cs => idsL cs
  | _ => []
def reach : Nat → Bxs → List Nat → List Nat → List Nat
  | 0, _, acc, _ => acc
  | _ + 1, _, acc, [] => acc
  | n + 1, B, acc, k :: r => match memN acc k with
    | true => reach n B acc r
    | false => match B[k]? with
      | some (some o) => reach n B (acc ++ [k]) (r ++ idsO o)
      | _ => reach n B acc r
def numI : Nat → List Nat → Ren
  | _, [] => []
  | i, k :: r => (k, i) :: numI (i + 1) r
def numB : Nat → List Nat → Ren
  | _, [] => []
  | i, k :: r => (i, k) :: numB (i + 1) r
def noDup : List Nat → Bool
  | [] => true
  | k :: r => !memN r k && noDup r
def objsOf (B : Bxs) : List Nat → Option (List Ob)
  | [] => some []
  | k :: r => match B[k]?, objsOf B r with
    | some (some o), some l => (match plainO o with
      | true => some (o :: l)
      | false => none)
    | _, _ => none
/-- The objects of a call, put back: where the call's numbers are those of L. -/
def putB (π : Ren) : List Nat → Bxs → Bxs → Bxs
  | k :: r, o :: q, B => putB π r q (B.set k (o.map (renO π)))
  | [], q, B => B ++ q.map (fun o => o.map (renO π))
  | _ :: _, [], B => B

theorem memN_iff : ∀ {ds : List Nat} {s : Nat}, memN ds s = true ↔ s ∈ ds
  | [], s => by simp [memN]
  | x :: r, s => by
    unfold memN
    split
    · rename_i h; have := Nat.eq_of_beq_eq_true h; subst this; simp
    · rename_i h
      rw [memN_iff (ds := r)]
      have hne : s ≠ x := by intro e; subst e; simp at h
      simp [hne]
theorem noDup_iff : ∀ {l : List Nat}, noDup l = true → l.Nodup
  | [], _ => List.nodup_nil
  | k :: r, h => by
    simp only [noDup, Bool.and_eq_true, Bool.not_eq_true'] at h
    refine List.nodup_cons.2 ⟨fun hm => ?_, noDup_iff h.2⟩
    rw [memN_iff.2 hm] at h; simp at h

theorem numI_get : ∀ {l : List Nat} {i k k' : Nat}, lkN (numI i l) k = some k' → i ≤ k' ∧ l[k' - i]? = some k
  | [], i, k, k', h => by simp [numI, lkN] at h
  | x :: r, i, k, k', h => by
    simp only [numI, lkN] at h
    split at h
    · rename_i hb
      have := Nat.eq_of_beq_eq_true hb; subst this
      injection h with h; subst h
      simp
    · obtain ⟨h1, h2⟩ := numI_get h
      refine ⟨by omega, ?_⟩
      rw [show k' - i = (k' - (i + 1)) + 1 from by omega]; simpa using h2
theorem numB_get : ∀ {l : List Nat} {i k k' : Nat}, lkN (numB i l) k = some k' → i ≤ k ∧ l[k - i]? = some k'
  | [], i, k, k', h => by simp [numB, lkN] at h
  | x :: r, i, k, k', h => by
    simp only [numB, lkN] at h
    split at h
    · rename_i hb
      have := Nat.eq_of_beq_eq_true hb; subst this
      injection h with h; subst h
      simp
    · obtain ⟨h1, h2⟩ := numB_get h
      refine ⟨by omega, ?_⟩
      rw [show k - i = (k - (i + 1)) + 1 from by omega]; simpa using h2
theorem numB_some : ∀ {l : List Nat} {i j k : Nat}, l[j]? = some k → lkN (numB i l) (i + j) = some k
  | [], i, j, k, h => by simp at h
  | x :: r, i, j, k, h => by
    simp only [numB, lkN]
    cases j with
    | zero => simp at h; subst h; simp
    | succ j =>
      have hne : Nat.beq i (i + (j + 1)) = false := by
        cases hb : Nat.beq i (i + (j + 1)) with
        | false => rfl
        | true => have := Nat.eq_of_beq_eq_true hb; omega
      rw [hne]
      simp only
      rw [show i + (j + 1) = i + 1 + j from by omega]
      exact numB_some (by simpa using h)

theorem objsOf_get {B : Bxs} : ∀ {l : List Nat} {os : List Ob}, objsOf B l = some os → os.length = l.length ∧ ∀ (i : Nat) (k : Nat) (o : Ob), l[i]? = some k → os[i]? = some o → B[k]? = some (some o) ∧ plainO o = true
  | [], os, h => by simp [objsOf] at h; subst h; simp
  | x :: r, os, h => by
    unfold objsOf at h
    split at h
    · rename_i o l h1 h2
      split at h
      · rename_i hp
        injection h with h; subst h
        obtain ⟨g1, g2⟩ := objsOf_get h2
        refine ⟨by simp [g1], fun i k o' hk ho => ?_⟩
        cases i with
        | zero => simp at hk ho; subst hk; subst ho; exact ⟨h1, hp⟩
        | succ i => exact g2 i k o' (by simpa using hk) (by simpa using ho)
      · exact absurd h (by simp)
    · exact absurd h (by simp)

/-- What stands where, behind a call. -/
theorem putB_get {π : Ren} : ∀ {l : List Nat} {q B : Bxs} {m : Nat}, l.Nodup → (∀ k ∈ l, k < B.length) → q.length = l.length + m → (putB π l q B).length = B.length + m ∧ ∀ (k : Nat) (o : Ob), (putB π l q B)[k]? = some (some o) →
    (k ∉ l ∧ k < B.length ∧ B[k]? = some (some o)) ∨ (∃ (j : Nat) (o' : Ob), l[j]? = some k ∧ q[j]? = some (some o') ∧ o = renO π o') ∨ (∃ (j : Nat) (o' : Ob), l.length ≤ j ∧ k = B.length + (j - l.length) ∧ q[j]? = some (some o') ∧ o = renO π o')
  | [], q, B, m, _, _, hq => by
    simp only [putB]
    refine ⟨by simp; simpa using hq, fun k o hk => ?_⟩
    rcases Nat.lt_or_ge k B.length with h1 | h1
    · rw [List.getElem?_append_left h1] at hk; exact .inl ⟨by simp, h1, hk⟩
    · rw [List.getElem?_append_right h1, List.getElem?_map] at hk
      cases ho : q[k - B.length]? with
      | none => rw [ho] at hk; simp at hk
      | some x =>
        rw [ho] at hk
        cases x with
        | none => simp at hk
        | some o' =>
          simp at hk
          exact .inr (.inr ⟨k - B.length, o', by simp, by simp; omega, ho, hk.symm⟩)
  | x :: r, [], B, m, _, _, hq => by exfalso; simp only [List.length_nil, List.length_cons] at hq; omega
  | x :: r, o0 :: q, B, m, hn, hl, hq => by
    simp only [putB]
    have hn' := List.nodup_cons.1 hn
    obtain ⟨h1, h2⟩ := putB_get (π := π) (l := r) (q := q) (B := B.set x (o0.map (renO π))) (m := m) hn'.2 (fun k hk => by simpa using hl k (by simp [hk])) (by simp at hq; omega)
    refine ⟨by simpa using h1, fun k o hk => ?_⟩
    rcases h2 k o hk with ⟨g1, g2, g3⟩ | ⟨j, o', g1, g2, g3⟩ | ⟨j, o', g1, g2, g3, g4⟩
    · rw [List.getElem?_set] at g3
      by_cases e : x = k
      · subst e
        rw [if_pos rfl, if_pos (by simpa using hl x (by simp))] at g3
        cases o0 with
        | none => simp at g3
        | some o1 => simp at g3; exact .inr (.inl ⟨0, o1, rfl, rfl, g3.symm⟩)
      · rw [if_neg e] at g3
        exact .inl ⟨by simp [g1, Ne.symm e], by simpa using g2, g3⟩
    · exact .inr (.inl ⟨j + 1, o', by simpa using g1, by simpa using g2, g3⟩)
    · refine .inr (.inr ⟨j + 1, o', by simp; omega, ?_, by simpa using g3, g4⟩)
      simp at g2 ⊢; omega

theorem mem_get {l : List Nat} {k : Nat} (h : k ∈ l) : ∃ i : Nat, l[i]? = some k := List.getElem?_of_mem h
theorem nodup_idx : ∀ {l : List Nat} (h : l.Nodup) {i j k : Nat} (hi : l[i]? = some k) (hj : l[j]? = some k), i = j
  | [], _, i, j, k, hi, hj => by simp at hi
  | x :: r, h, i, j, k, hi, hj => by
    have hn := List.nodup_cons.1 h
    cases i with
    | zero =>
      cases j with
      | zero => rfl
      | succ j => simp at hi hj; subst hi; exact absurd (List.mem_of_getElem? hj) hn.1
    | succ i =>
      cases j with
      | zero => simp at hi hj; subst hj; exact absurd (List.mem_of_getElem? hi) hn.1
      | succ j => exact congrArg (· + 1) (nodup_idx hn.2 (k := k) (by simpa using hi) (by simpa using hj))

/-- Behind a call with the objects of l, of which the callee knows no others. -/
theorem call_frame {P : Program} {γ : List Value} {ω : Own} {w : World} {nt : Nat} {st : St} {a : Act} (h : Rel γ ω w nt st a) {g : FuncId} {args : List MV} {l : List Nat} {os : List Ob} {r : Res} {B' : Bxs} (hl : l.Nodup) (hos : objsOf st.B l = some os)
    (hs : SpecB P g (renL (numI 0 l) args) (os.map fun o => some (renO (numI 0 l) o)) r B') (hBl : l.length ≤ B'.length) (us : List Value) (hul : us.length = args.length) (d : Option Tmp) (hd : ∀ t, d = some t → t < nt)
    (hargs : ∀ (i : Nat) (c : MV) (v : Value), args[i]? = some c → us[i]? = some v → Rep γ ω w c v) :
    Calls P g us.toArray w fun e w' => ∃ v γ' ω', e = .returned v ∧ Chg NotOuter γ ω w γ' ω' w' ∧ Rel γ' ω' w' nt (putO ⟨st.v, putB (numB 0 l ++ numB l.length ((List.range (B'.length - l.length)).map (· + st.B.length))) l B' st.B⟩ d (resV (renL (numB 0 l ++ numB l.length ((List.range (B'.length - l.length)).map (· + st.B.length))) r))) (a.put d v) := by
  obtain ⟨ho1, ho2⟩ := objsOf_get hos
  have hlB : ∀ k ∈ l, k < st.B.length := by
    intro k hk
    obtain ⟨i, hi⟩ := mem_get hk
    have hio : i < os.length := by rw [ho1]; exact (List.getElem?_eq_some_iff.1 hi).1
    exact (List.getElem?_eq_some_iff.1 (ho2 i k _ hi (List.getElem?_eq_getElem hio)).1).1
  have hlg : ∀ k ∈ l, ∃ v, γ[k]? = some v := fun k hk => ⟨_, List.getElem?_eq_getElem (by rw [h.len]; exact hlB k hk)⟩
  let γc : List Value := l.map fun k => γ.getD k undef
  have hγc : ∀ (j k : Nat) (v : Value), l[j]? = some k → γ[k]? = some v → γc[j]? = some v := by
    intro j k v hj hk
    simp only [γc, List.getElem?_map, hj, Option.map_some]
    simp [hk]
  let ωc : Own := fun b => match ω b with
    | some (.ob k p) => (match lkN (numI 0 l) k with
      | some j => some (.ob j p)
      | none => some .outer)
    | x => x
  have hnone : ∀ b, ω b = none → ωc b = none := fun b hb => by simp [ωc, hb]
  have hltc : ∀ b, w.heap.size ≤ b → ωc b = none := fun b hb => hnone b (h.lt b hb)
  have hπ : ∀ k k' v, lkN (numI 0 l) k = some k' → γ[k]? = some v → γc[k']? = some v := by
    intro k k' v hk hv
    obtain ⟨_, h2⟩ := numI_get hk
    exact hγc k' k v (by simpa using h2) hv
  have hkc : Keeps γ ω w γ ωc w := ⟨fun _ _ h => h, Nat.le_refl _, fun b _ h0 => ⟨rfl, hnone b h0⟩⟩
  have hIsome : ∀ k j, l[j]? = some k → lkN (numI 0 l) k = some j := by
    intro k j hj
    have hex : ∃ j', lkN (numI 0 l) k = some j' := by
      have key : ∀ (l : List Nat) (i : Nat), k ∈ l → ∃ j', lkN (numI i l) k = some j' := by
        intro l
        induction l with
        | nil => intro i hm; simp at hm
        | cons x r ih =>
          intro i hm
          simp only [numI, lkN]
          split
          · exact ⟨i, rfl⟩
          · rename_i hb
            rcases List.mem_cons.1 hm with rfl | hm
            · simp at hb
            · exact ih (i + 1) hm
      exact key l 0 (List.mem_of_getElem? hj)
    obtain ⟨j', hj'⟩ := hex
    obtain ⟨_, h2⟩ := numI_get hj'
    rw [nodup_idx hl hj (by simpa using h2)]; exact hj'
  have hlab : ∀ b k p, ωc b = some (.ob k p) → k < (os.map fun o => some (renO (numI 0 l) o)).length := by
    intro b k p hb
    simp only [ωc] at hb
    split at hb
    · split at hb
      · rename_i j hj
        injection hb with hb; injection hb with hb _; subst hb
        obtain ⟨_, h2⟩ := numI_get hj
        have := (List.getElem?_eq_some_iff.1 h2).1
        simp [ho1]; simpa using this
      · simp at hb
    · rename_i hno
      exact absurd hb (by intro e; exact hno k p e)
  have hobj : Objs γc ωc w (os.map fun o => some (renO (numI 0 l) o)) := by
    intro j o hj
    rw [List.getElem?_map] at hj
    cases hoj : os[j]? with
    | none => rw [hoj] at hj; simp at hj
    | some o0 =>
      rw [hoj] at hj; simp at hj; subst hj
      have hjl : j < l.length := by rw [← ho1]; exact (List.getElem?_eq_some_iff.1 hoj).1
      have hlj : l[j]? = some l[j] := List.getElem?_eq_getElem hjl
      obtain ⟨q1, q2⟩ := ho2 j _ o0 hlj hoj
      obtain ⟨hd, r1, r2⟩ := h.objs _ _ q1
      refine ⟨hd, hγc j _ hd hlj r1, r2.ren q2 hπ hnone (fun p b hb => ?_)⟩
      simp only [ωc, hb, hIsome _ _ hlj]
  refine (hs.2 γc ωc w us (by rw [renL_len]; exact hul) (fun i c v hc hv => ?_) hltc (h.gl.keeps hkc) (by simp [γc, ho1]) hlab hobj).mono ?_
  · rw [renL_get] at hc
    cases hi : args[i]? with
    | none => rw [hi] at hc; simp at hc
    | some c0 => rw [hi] at hc; simp at hc; subst hc; exact ((hargs i c0 v hi hv).keeps hkc).ren hπ
  rintro e w' ⟨v, γ', ω', he, hc, hlt', hlen', hlab', hobj', hr, hBp⟩
  have hγpre : ∀ j v, γc[j]? = some v → γ'[j]? = some v := hc.pre
  generalize hm : B'.length - l.length = m at *
  have hBm : B'.length = l.length + m := by omega
  let news : List Value := (List.range m).map fun i => γ'.getD (l.length + i) undef
  let γ2 : List Value := γ ++ news
  generalize hσ : numB 0 l ++ numB l.length ((List.range m).map (· + st.B.length)) = σ
  have lk_app : ∀ {A C : Ren} {k : Nat}, lkN (A ++ C) k = match lkN A k with | some x => some x | none => lkN C k := by
    intro A C k
    induction A with
    | nil => rfl
    | cons y q ih =>
      obtain ⟨y1, y2⟩ := y
      simp only [List.cons_append, lkN]
      split
      · rfl
      · exact ih
  have hσ1 : ∀ j k, l[j]? = some k → lkN σ j = some k := by
    intro j k hj
    have := numB_some (i := 0) hj
    rw [Nat.zero_add] at this
    rw [← hσ, lk_app, this]
  have hσ2 : ∀ j, j < m → lkN σ (l.length + j) = some (st.B.length + j) := by
    intro j hj
    rw [← hσ, lk_app]
    have h1 : lkN (numB 0 l) (l.length + j) = none := by
      cases hq : lkN (numB 0 l) (l.length + j) with
      | none => rfl
      | some x => obtain ⟨_, h2⟩ := numB_get hq; have := (List.getElem?_eq_some_iff.1 h2).1; omega
    rw [h1]
    refine numB_some ?_
    rw [List.getElem?_map, List.getElem?_range hj]; simp; omega
  have hσinv : ∀ j k, lkN σ j = some k → l[j]? = some k ∨ ∃ i, i < m ∧ j = l.length + i ∧ k = st.B.length + i := by
    intro j k hj
    rw [← hσ, lk_app] at hj
    split at hj
    · rename_i x hx
      injection hj with hj; subst hj
      obtain ⟨_, h2⟩ := numB_get hx
      exact .inl (by simpa using h2)
    · obtain ⟨h1, h2⟩ := numB_get hj
      rw [List.getElem?_map] at h2
      cases hq : (List.range m)[j - l.length]? with
      | none => rw [hq] at h2; simp at h2
      | some x =>
        rw [hq] at h2; simp at h2
        have hlt := (List.getElem?_eq_some_iff.1 hq).1
        have hv := (List.getElem?_eq_some_iff.1 hq).2
        simp at hlt hv
        exact .inr ⟨j - l.length, hlt, by omega, by omega⟩
  have hγ2 : ∀ j k v, lkN σ j = some k → γ'[j]? = some v → γ2[k]? = some v := by
    intro j k v hj hv
    rcases hσinv j k hj with h1 | ⟨i, h1, h2, h3⟩
    · obtain ⟨u, hu⟩ := hlg k (List.mem_of_getElem? h1)
      have := hγpre j u (hγc j k u h1 hu)
      rw [hv] at this; injection this with this; subst this
      simp only [γ2]; exact pre_app' hu
    · subst h2; subst h3
      simp only [γ2]
      rw [List.getElem?_append_right (by rw [h.len]; omega), h.len]
      simp only [news, List.getElem?_map]
      rw [show st.B.length + i - st.B.length = i from by omega, List.getElem?_range h1]
      simp [hv]
  let back : Owner → Owner := fun o => match o with
    | .ob j p => (match lkN σ j with
      | some k => .ob k p
      | none => .outer)
    | .outer => .outer
  let ω2 : Own := fun b => match ω b with
    | some (.ob k p) => (match lkN (numI 0 l) k with
      | some _ => (ω' b).map back
      | none => some (.ob k p))
    | some .outer => some .outer
    | none => (ω' b).map back
  have hin : ∀ k, lkN (numI 0 l) k = none → k ∉ l := by
    intro k hk hm
    obtain ⟨i, hi⟩ := mem_get hm
    rw [hIsome k i hi] at hk; simp at hk
  have hin2 : ∀ k, k ∉ l → lkN (numI 0 l) k = none := by
    intro k hk
    cases hq : lkN (numI 0 l) k with
    | none => rfl
    | some j => obtain ⟨_, h2⟩ := numI_get hq; exact absurd (List.mem_of_getElem? h2) hk
  have hold : ∀ b o, b < w.heap.size → ω b = some o → (∀ k p, o = .ob k p → k ∉ l) → w'.heap[b]? = w.heap[b]? ∧ ω2 b = some o ∧ ω' b = some .outer := by
    intro b o hb h0 hno
    have hco : ωc b = some .outer := by
      cases o with
      | outer => simp [ωc, h0]
      | ob k p => simp [ωc, h0, hin2 k (hno k p rfl)]
    obtain ⟨e1, e2⟩ := hc.keep b .outer hb hco (by simp)
    refine ⟨e1, ?_, e2⟩
    cases o with
    | outer => simp [ω2, h0]
    | ob k p => simp [ω2, h0, hin2 k (hno k p rfl)]
  have hn2 : ∀ b, b < w.heap.size → ω b = none → w'.heap[b]? = w.heap[b]? ∧ ω2 b = none := by
    intro b hb h0
    obtain ⟨e1, e2⟩ := hc.none b hb (hnone b h0)
    exact ⟨e1, by simp [ω2, h0, e2]⟩
  have hc2 : Chg (fun o => ∃ k p, k ∈ l ∧ o = .ob k p) γ ω w γ2 ω2 w' := by
    refine ⟨hc.os, hc.tape, hc.output, hc.size, fun k v hk => pre_app' hk, hn2, fun b o hb h0 hno => ?_⟩
    obtain ⟨e1, e2, _⟩ := hold b o hb h0 (fun k p e hk => hno ⟨k, p, hk, e⟩)
    exact ⟨e1, e2⟩
  have hlt2 : ∀ b, w'.heap.size ≤ b → ω2 b = none := by
    intro b hb
    have h0 := h.lt b (Nat.le_trans hc.size hb)
    simp [ω2, h0, hlt' b hb]
  -- from the callee's names to the caller's
  have hback0 : ∀ b, ω' b = none → ω2 b = none := by
    intro b hb
    rcases Nat.lt_or_ge b w.heap.size with hlt | hge
    · cases h0 : ω b with
      | none => exact (hn2 b hlt h0).2
      | some o =>
        cases o with
        | outer => have := (hold b .outer hlt h0 (fun k p e => by simp at e)).2.2; rw [hb] at this; simp at this
        | ob k p =>
          by_cases hk : k ∈ l
          · obtain ⟨i, hi⟩ := mem_get hk
            simp [ω2, h0, hIsome k i hi, hb]
          · have := (hold b (.ob k p) hlt h0 (fun k' p' e => by injection e with e; rw [← e]; exact hk)).2.2
            rw [hb] at this; simp at this
    · simp [ω2, h.lt b hge, hb]
  have hbackN : ∀ j k, lkN σ j = some k → ∀ p b, ω' b = some (.ob j p) → ω2 b = some (.ob k p) := by
    intro j k hj p b hb
    rcases Nat.lt_or_ge b w.heap.size with hlt | hge
    · cases h0 : ω b with
      | none => have := (hc.none b hlt (hnone b h0)).2; rw [hb] at this; simp at this
      | some o =>
        cases o with
        | outer => have := (hold b .outer hlt h0 (fun k p e => by simp at e)).2.2; rw [hb] at this; simp at this
        | ob k2 p2 =>
          by_cases hk : k2 ∈ l
          · obtain ⟨i, hi⟩ := mem_get hk
            simp [ω2, h0, hIsome k2 i hi, hb, back, hj]
          · have := (hold b (.ob k2 p2) hlt h0 (fun k' p' e => by injection e with e; rw [← e]; exact hk)).2.2
            rw [hb] at this; simp at this
    · simp [ω2, h.lt b hge, hb, back, hj]
  obtain ⟨hput1, hput2⟩ := putB_get (π := σ) (l := l) (q := B') (B := st.B) (m := m) hl hlB hBm
  have hR : Rel γ2 ω2 w' nt ⟨st.v, putB σ l B' st.B⟩ a := by
    refine h.turn hc2 hlt2 (by rw [hput1]; simp [γ2, news, h.len]) (fun k o hk => ?_)
    rcases hput2 k o hk with ⟨q1, q2, q3⟩ | ⟨j, o', q1, q2, q3⟩ | ⟨j, o', q1, q2, q3, q4⟩
    · exact .inl ⟨q3, fun p ⟨k', p', r1, r2⟩ => by injection r2 with r2; subst r2; exact q1 r1⟩
    · subst q3
      obtain ⟨hd, r1, r2⟩ := hobj' j o' q2
      exact .inr ⟨hd, hγ2 j k hd (hσ1 j k q1) r1, r2.ren (hBp o' (List.mem_of_getElem? q2)) hγ2 hback0 (hbackN j k (hσ1 j k q1))⟩
    · subst q4; subst q2
      obtain ⟨hd, r1, r2⟩ := hobj' j o' q3
      have hjm : j - l.length < m := by have := (List.getElem?_eq_some_iff.1 q3).1; omega
      have hσj := hσ2 (j - l.length) hjm
      rw [show l.length + (j - l.length) = j from by omega] at hσj
      exact .inr ⟨hd, hγ2 j _ hd hσj r1, r2.ren (hBp o' (List.mem_of_getElem? q3)) hγ2 hback0 (hbackN j _ hσj)⟩
  refine ⟨v, γ2, ω2, he, hc2.mono (fun o ⟨k, p, _, e⟩ => by rw [e]; simp), ?_⟩
  refine hR.putO hd ?_
  have hrr := hr.rep
  have hkc2 : Keeps γ' ω' w' γ' ω2 w' := ⟨fun _ _ h => h, Nat.le_refl _, fun b _ h0 => ⟨rfl, hback0 b h0⟩⟩
  have := (hrr.keeps hkc2).ren hγ2
  have hres : Go.Pv.ren σ (resV r) = resV (renL σ r) := by
    match r with
    | [] => rfl
    | [m] => rfl
    | _ :: _ :: _ => rfl
  rw [hres] at this
  exact this
where
  pre_app' {γ news : List Value} {k : Nat} {v : Value} (h : γ[k]? = some v) : (γ ++ news)[k]? = some v := by
    rw [List.getElem?_append_left (List.getElem?_eq_some_iff.1 h).1]; exact h
end Go.Pv
