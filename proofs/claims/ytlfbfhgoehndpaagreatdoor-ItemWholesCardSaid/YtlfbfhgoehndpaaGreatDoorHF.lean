/- The library of this work, H texts, part F: objects that are shared, moved and made; append. -/
import Derived.Test.YtlfbfhgoehndpaaGreatDoorHE
set_option linter.unusedVariables false
set_option linter.unusedSimpArgs false
namespace Go.Pv

abbrev NotOuter : Owner → Prop := fun o => o ≠ .outer

/-! ### What is owned is shared -/
mutual
def shM : MV → MV
  | .hold dp _ m => shH dp m
  | m => m
def shH : Bool → MV → MV
  | false, m => m
  | true, .list es => .list (shLL es)
  | true, .map m => .map (shE m)
  | true, m => m
def shL : List MV → List MV
  | [] => []
  | m :: r => shM m :: shL r
def shLL : List (List MV) → List (List MV)
  | [] => []
  | e :: r => shL e :: shLL r
def shE : List (MKey × MV) → List (MKey × MV)
  | [] => []
  | (k, m) :: r => (k, shM m) :: shE r
end

theorem shL_map : ∀ l : List MV, shL l = l.map shM
  | [] => by simp [shL]
  | m :: r => by simp [shL, shL_map r]
theorem shLL_map : ∀ l : List (List MV), shLL l = l.map (fun e => e.map shM)
  | [] => by simp [shLL]
  | m :: r => by simp [shLL, shLL_map r, shL_map]
theorem shE_map : ∀ l : List (MKey × MV), shE l = l.map (fun x => (x.1, shM x.2))
  | [] => by simp [shE]
  | (k, m) :: r => by simp [shE, shE_map r]

theorem sh_len {e : List MV} : (e.map shM).length = e.length := by simp

theorem sh_flat {es : List (List MV)} (h : ∀ (j : Nat) (y : List MV) (i : Nat) (c : MV), es[j]? = some y → y[i]? = some c → np c = true) : shLL es = es := by
  rw [shLL_map]
  apply List.ext_getElem?
  intro j
  rw [List.getElem?_map]
  cases hj : es[j]? with
  | none => rfl
  | some y =>
    simp only [Option.map_some, Option.some.injEq]
    apply List.ext_getElem?
    intro i
    rw [List.getElem?_map]
    cases hi : y[i]? with
    | none => rfl
    | some c =>
      have := h j y i c hj hi
      simp only [Option.map_some, Option.some.injEq]
      cases c <;> first | rfl | simp [np] at this

theorem shE_flat {m : List (MKey × MV)} (h : ∀ x ∈ m, np x.2 = true) : shE m = m := by
  rw [shE_map]
  conv => rhs; rw [← List.map_id m]
  apply List.map_congr_left
  intro x hx
  have := h x hx
  obtain ⟨x1, x2⟩ := x
  simp only at this
  cases x2 <;> first | rfl | simp [np] at this

theorem CellT.share {γ : List Value} {ω ω' : Own} {w : World} (hn : ∀ b, ω b = none → ω' b = none) {N : List (Nat × Nat) → Owner} {m : MV} {v : Value} (h : CellT γ ω w N m v) :
    (∀ p b, ω b = some (N p) → ω' b = none) → np (shM m) = true ∧ Rep γ ω' w (shM m) v := by
  have hk : Keeps γ ω w γ ω' w := ⟨fun _ _ h => h, Nat.le_refl _, fun b _ h0 => ⟨rfl, hn b h0⟩⟩
  induction h with
  | rep N m v hnp h =>
    intro _
    have : shM m = m := by cases m <;> first | rfl | simp [np] at hnp
    rw [this]; exact ⟨hnp, h.keeps hk⟩
  | row N dp sz es v e xs us hr hl hw h1 hx _ hd ho ih =>
    intro hN
    have hsh : shM (.hold dp sz (.list es)) = .list (shLL es) := by
      cases dp with
      | true => rfl
      | false => show MV.list es = _; rw [sh_flat (fun j y i c hj hi => hd j y i c hj hi rfl)]
    rw [hsh]
    refine ⟨rfl, ?_⟩
    rw [shLL_map]
    have ih' := fun j y i c hj hi => ih j y i c hj hi (fun p b h0 => hN _ b h0)
    rcases hr.2 with ⟨rfl, h0⟩ | ⟨g, cap, cur, rfl, _, hg, hle, hmx, hcs, htk⟩
    · have : es = [] := List.eq_nil_of_length_eq_zero h0
      subst this; exact .list0 _ _
    · obtain ⟨h2, h3⟩ := ho g rfl
      have hlen : es.length = (es.map fun e => e.map shM).length := by simp
      rw [hlen]
      have hget : ∀ (j : Nat) (y : List MV), (es.map fun e => e.map shM)[j]? = some y → ∃ y0, es[j]? = some y0 ∧ y = y0.map shM := by
        intro j y hj
        rw [List.getElem?_map] at hj
        cases h4 : es[j]? with
        | none => rw [h4] at hj; simp at hj
        | some y0 => rw [h4] at hj; simp at hj; exact ⟨y0, rfl, hj.symm⟩
      have hget2 : ∀ (y0 : List MV) (i : Nat) (c : MV), (y0.map shM)[i]? = some c → ∃ c0, y0[i]? = some c0 ∧ c = shM c0 := by
        intro y0 i c hi
        rw [List.getElem?_map] at hi
        cases h4 : y0[i]? with
        | none => rw [h4] at hi; simp at hi
        | some c0 => rw [h4] at hi; simp at hi; exact ⟨c0, rfl, hi.symm⟩
      refine .list _ sz g 0 cap us (by simpa using hle) (hN [] g h2) h3 ?_ ?_ ?_ ?_
      · intro y hy
        obtain ⟨j, hj⟩ := List.getElem?_of_mem hy
        obtain ⟨y0, h4, rfl⟩ := hget j y hj
        simp [hw y0 (List.mem_of_getElem? h4)]
      · intro y hy
        obtain ⟨j, hj⟩ := List.getElem?_of_mem hy
        obtain ⟨y0, h4, rfl⟩ := hget j y hj
        rw [npL_iff]
        intro c hc
        obtain ⟨i, hi⟩ := List.getElem?_of_mem hc
        obtain ⟨c0, h5, rfl⟩ := hget2 y0 i c hi
        exact (ih' j y0 i c0 h4 h5).1
      · intro j y hj i c hi
        obtain ⟨y0, h4, rfl⟩ := hget j y hj
        obtain ⟨c0, h5, rfl⟩ := hget2 y0 i c hi
        have hu := hx j y0 i c0 h4 h5
        refine ⟨?_, h1 _ (List.mem_of_getElem? hu)⟩
        rw [Nat.zero_add]
        simp only [World.cell?, hg]
        rw [← htk, List.getElem?_take] at hu
        split at hu
        · simpa using hu
        · simp at hu
      · intro j y hj i c hi
        obtain ⟨y0, h4, rfl⟩ := hget j y hj
        obtain ⟨c0, h5, rfl⟩ := hget2 y0 i c hi
        exact (ih' j y0 i c0 h4 h5).2
  | map N dp sz m blk es clock ho hlt hb hl hkk _ hbn hnd hh hd ih =>
    intro hN
    have hsh : shM (.hold dp sz (.map m)) = .map (shE m) := by
      cases dp with
      | true => rfl
      | false => show MV.map m = _; rw [shE_flat (fun x hx => hd x hx rfl)]
    rw [hsh]
    refine ⟨rfl, ?_⟩
    rw [shE_map]
    have hget : ∀ (i : Nat) (x : MKey × MV), (m.map fun x => (x.1, shM x.2))[i]? = some x → ∃ x0, m[i]? = some x0 ∧ x = (x0.1, shM x0.2) := by
      intro i x hi
      rw [List.getElem?_map] at hi
      cases h4 : m[i]? with
      | none => rw [h4] at hi; simp at hi
      | some x0 => rw [h4] at hi; simp at hi; exact ⟨x0, rfl, hi.symm⟩
    refine .map _ blk es clock (hN [] blk ho) hb (by simpa using hl) ?_ ?_ ?_ hlt hbn hnd ?_
    · intro x hx
      obtain ⟨i, hi⟩ := List.getElem?_of_mem hx
      obtain ⟨x0, h4, rfl⟩ := hget i x hi
      have hi2 : i < es.length := by rw [hl]; exact (List.getElem?_eq_some_iff.1 h4).1
      exact (ih i x0 _ h4 (List.getElem?_eq_getElem hi2) (fun p b h0 => hN _ b h0)).1
    · intro i x e hi he
      obtain ⟨x0, h4, rfl⟩ := hget i x hi
      exact hkk i x0 e h4 he
    · intro i x e hi he
      obtain ⟨x0, h4, rfl⟩ := hget i x hi
      exact (ih i x0 e h4 he (fun p b h0 => hN _ b h0)).2
    · intro x hx y hy
      obtain ⟨i, hi⟩ := List.getElem?_of_mem hx
      obtain ⟨x0, h4, rfl⟩ := hget i x hi
      obtain ⟨j, hj⟩ := List.getElem?_of_mem hy
      obtain ⟨y0, h5, rfl⟩ := hget j y hj
      exact hh x0 (List.mem_of_getElem? h4) y0 (List.mem_of_getElem? h5)

/-- A row without focus, as a cell that is owned. -/
theorem RowR.toCell {γ : List Value} {ω : Own} {w : World} {N : List (Nat × Nat) → Owner} {dp : Bool} {sz : Nat} {es : List (List MV)} {v : Value} {e : TypeId} {xs : List Value} (h : RowR γ ω w N [] dp sz es v e xs) : CellT γ ω w N (.hold dp sz (.list es)) v := by
  refine .row N dp sz es v e xs (fun j i => (xs[j * sz + i]?).getD undef) h.own h.len h.wid h.one (fun j y i c hj hi => ?_) (fun j y i c hj hi => ?_) (fun j y i c hj hi hdp => ?_) h.blk
  rotate_left 2
  · obtain ⟨u, _, h2⟩ := h.cell j y i c hj hi; simp only [lkF] at h2; exact h2.1 hdp
  · obtain ⟨u, h1, _⟩ := h.cell j y i c hj hi; rw [h1]; rfl
  · obtain ⟨u, h1, h2⟩ := h.cell j y i c hj hi; rw [h1]; simp only [lkF] at h2; exact h2.2

theorem CellT.toRow {γ : List Value} {ω : Own} {w : World} {N : List (Nat × Nat) → Owner} {dp : Bool} {sz : Nat} {es : List (List MV)} {v : Value} (h : CellT γ ω w N (.hold dp sz (.list es)) v) : ∃ e xs, RowR γ ω w N [] dp sz es v e xs := by
  cases h with
  | rep _ _ _ hn _ => simp [np] at hn
  | row _ _ _ _ _ e xs us hr hl hw h1 hx hc hd ho =>
    exact ⟨e, xs, hr, hl, hw, h1, fun j y i c hj hi => ⟨us j i, hx j y i c hj hi, by simp only [lkF]; exact ⟨hd j y i c hj hi, hc j y i c hj hi⟩⟩, ho⟩

theorem MapR.toCell {γ : List Value} {ω : Own} {w : World} {N : List (Nat × Nat) → Owner} {dp : Bool} (sz : Nat) {m : List (MKey × MV)} {blk : Nat} {es : List MapEntry} {clock : Nat} (h : MapR γ ω w N [] dp m blk es clock) : CellT γ ω w N (.hold dp sz (.map m)) (.map (some blk)) :=
  .map N dp sz m blk es clock h.own h.lt h.heap h.len h.key (fun i x e hx he => by have := h.val i x e hx he; simp only [lkK] at this; exact this.2) h.born h.nodup h.same (fun x hx hdp => by
    obtain ⟨i, hi⟩ := List.getElem?_of_mem hx
    have hi2 : i < es.length := by rw [h.len]; exact (List.getElem?_eq_some_iff.1 hi).1
    have := h.val i x _ hi (List.getElem?_eq_getElem hi2)
    simp only [lkK] at this
    exact this.1 hdp)

theorem CellT.toMap {γ : List Value} {ω : Own} {w : World} {N : List (Nat × Nat) → Owner} {dp : Bool} {sz : Nat} {m : List (MKey × MV)} {v : Value} (h : CellT γ ω w N (.hold dp sz (.map m)) v) : ∃ blk es clock, v = .map (some blk) ∧ MapR γ ω w N [] dp m blk es clock := by
  cases h with
  | rep _ _ _ hn _ => simp [np] at hn
  | map _ _ _ _ blk es clock ho hlt hb hl hk hv hbn hnd hh hd =>
    exact ⟨blk, es, clock, rfl, ho, hlt, hb, hl, hk, fun i x e hx he => by simp only [lkK]; exact ⟨hd x (List.mem_of_getElem? hx), hv i x e hx he⟩, hbn, hnd, hh⟩

/-- What an object holds, as a shared value. -/
def content : Ob → Option MV
  | .row false _ es [] => some (.list es)
  | .row true _ es [] => some (.list (shLL es))
  | .map false m [] => some (.map m)
  | .map true m [] => some (.map (shE m))
  | _ => none

theorem content_ok {γ : List Value} {ω ω' : Own} {w : World} {k : Nat} {o : Ob} {m : MV} (hm : content o = some m) {v : Value} (h : ObR γ ω w k o v) (hn : ∀ b, ω b = none → ω' b = none) (hN : ∀ p b, ω b = some (.ob k p) → ω' b = none) : np m = true ∧ Rep γ ω' w m v := by
  unfold content at hm
  split at hm
  · injection hm with hm; subst hm
    obtain ⟨e, xs, hr⟩ := h
    exact ⟨rfl, (hr.toCell.share (ω' := ω') hn hN).2⟩
  · injection hm with hm; subst hm
    obtain ⟨e, xs, hr⟩ := h
    exact ⟨rfl, (hr.toCell.share (ω' := ω') hn hN).2⟩
  · injection hm with hm; subst hm
    obtain ⟨blk, es, clock, rfl, hr⟩ := h
    exact ⟨rfl, ((hr.toCell 0).share (ω' := ω') hn hN).2⟩
  · injection hm with hm; subst hm
    obtain ⟨blk, es, clock, rfl, hr⟩ := h
    exact ⟨rfl, ((hr.toCell 0).share (ω' := ω') hn hN).2⟩
  · exact absurd hm (by simp)

/-! ### A reference is read as what it leads to -/
mutual
def sub (k : Nat) (m : MV) : MV → MV
  | .ref j => match Nat.beq j k with
    | true => m
    | false => .ref j
  | .agg cs => .agg (subL k m cs)
  | .tup cs => .tup (subL k m cs)
  | x => x
def subL (k : Nat) (m : MV) : List MV → List MV
  | [] => []
  | x :: r => sub k m x :: subL k m r
end
def subV (k : Nat) (m : MV) : List (Nat × MV) → List (Nat × MV)
  | [] => []
  | (s, x) :: r => (s, sub k m x) :: subV k m r
def subB (k : Nat) (m : MV) : Bxs → Bxs
  | [] => []
  | some (.box cs) :: r => some (.box (subL k m cs)) :: subB k m r
  | o :: r => o :: subB k m r

theorem lk_subV (k : Nat) (m : MV) (v : List (Nat × MV)) (s : Nat) : lk (subV k m v) s = sub k m (lk v s) := by
  induction v with
  | nil => simp [subV, lk, sub]
  | cons x r ih =>
    obtain ⟨j, c⟩ := x
    by_cases h : j = s
    · simp [subV, lk, h]
    · simp only [subV, lk, h, if_false]; exact ih

theorem subL_get (k : Nat) (m : MV) : ∀ (l : List MV) (i : Nat), (subL k m l)[i]? = (l[i]?).map (sub k m)
  | [], i => by simp [subL]
  | x :: r, 0 => by simp [subL]
  | x :: r, i + 1 => by simp [subL, subL_get k m r i]
theorem subL_len (k : Nat) (m : MV) : ∀ (l : List MV), (subL k m l).length = l.length
  | [] => by simp [subL]
  | x :: r => by simp [subL, subL_len k m r]

theorem Rep.sub {γ : List Value} {ω : Own} {w : World} {k : Nat} {m : MV} (hm : ∀ v, γ[k]? = some v → Rep γ ω w m v) {c : MV} {v : Value} (h : Rep γ ω w c v) : Rep γ ω w (Go.Pv.sub k m c) v := by
  induction h with
  | agg cs vs hl _ h1 ih =>
    simp only [Go.Pv.sub]
    refine .agg _ vs (by rw [subL_len]; exact hl) (fun i c u hc hu => ?_) h1
    rw [subL_get] at hc
    cases hi : cs[i]? with
    | none => rw [hi] at hc; simp at hc
    | some c0 => rw [hi] at hc; simp at hc; subst hc; exact ih i c0 u hi hu
  | tup cs vs hl _ ih =>
    simp only [Go.Pv.sub]
    refine .tup _ vs (by rw [subL_len]; exact hl) (fun i c u hc hu => ?_)
    rw [subL_get] at hc
    cases hi : cs[i]? with
    | none => rw [hi] at hc; simp at hc
    | some c0 => rw [hi] at hc; simp at hc; subst hc; exact ih i c0 u hi hu
  | ref b v hb h1 h2 =>
    simp only [Go.Pv.sub]
    split
    · rename_i hbk
      have := Nat.eq_of_beq_eq_true hbk
      subst this; exact hm v hb
    · exact .ref b v hb h1 h2
  | bool b => exact .bool b
  | int k n => exact .int k n
  | str s => exact .str s
  | list es sz blk o cap us hcap hω hlt hsz hn hcell h ih => exact .list es sz blk o cap us hcap hω hlt hsz hn hcell h
  | list0 a cap => exact .list0 a cap
  | nil => exact .nil
  | fn f cs vs hl h _ => exact .fn f cs vs hl h
  | nilfn => exact .nilfn
  | ptr b off blk hb => exact .ptr b off blk hb
  | eref b sz i off blk len cap hb => exact .eref b sz i off blk len cap hb
  | cptr cs off blk o us hω hlt hn hcell h _ => exact .cptr cs off blk o us hω hlt hn hcell h
  | nilptr => exact .nilptr
  | map m blk es clock hω hb hl hn hk h hlt hbn hnd hh _ => exact .map m blk es clock hω hb hl hn hk h hlt hbn hnd hh
  | map0 => exact .map0
  | ifc t c v h _ => exact .ifc t c v h
  | nilifc => exact .nilifc
  | seq f c blk u hω hlt hn hcell h1 h _ => exact .seq f c blk u hω hlt hn hcell h1 h
  | gone v => exact .gone v

theorem subB_len (k : Nat) (m : MV) : ∀ B : Bxs, (subB k m B).length = B.length
  | [] => rfl
  | some (.box cs) :: r => by simp [subB, subB_len k m r]
  | some (.row _ _ _ _) :: r => by simp [subB, subB_len k m r]
  | some (.map _ _ _) :: r => by simp [subB, subB_len k m r]
  | some (.siter _ _) :: r => by simp [subB, subB_len k m r]
  | some (.miter _) :: r => by simp [subB, subB_len k m r]
  | some (.bld _) :: r => by simp [subB, subB_len k m r]
  | none :: r => by simp [subB, subB_len k m r]
theorem subB_get (k : Nat) (m : MV) : ∀ (B : Bxs) (j : Nat) (o : Ob), (subB k m B)[j]? = some (some o) → B[j]? = some (some o) ∨ ∃ cs, B[j]? = some (some (.box cs)) ∧ o = .box (subL k m cs)
  | [], j, o, h => by simp [subB] at h
  | x :: r, 0, o, h => by
    cases x with
    | none => simp [subB] at h
    | some x => cases x <;> simp [subB] at h <;> subst h <;> first | exact .inr ⟨_, rfl, rfl⟩ | exact .inl rfl
  | x :: r, j + 1, o, h => by
    have : (subB k m r)[j]? = some (some o) := by
      cases x with
      | none => simpa [subB] using h
      | some x => cases x <;> simpa [subB] using h
    simpa using subB_get k m r j o this

/-- An object is shared from now on. -/
def St.retire (st : St) (k : Nat) (m : MV) : St := ⟨subV k m st.v, subB k m (st.B.set k none)⟩

section
variable {P : Program} {γ γ' : List Value} {ω ω' : Own} {w w' : World} {nt : Nat} {st : St} {a : Act}

theorem Rel.retire (h : Rel γ ω w nt st a) {k : Nat} {o : Ob} (hk : st.B[k]? = some (some o)) {m : MV} (hm : content o = some m) :
    ∃ ω', Chg NotOuter γ ω w γ ω' w ∧ Rel γ ω' w nt (st.retire k m) a ∧ ∀ v, γ[k]? = some v → Rep γ ω' w m v := by
  obtain ⟨hd, g1, g2⟩ := h.objs k o hk
  let ω' : Own := fun b => match ω b with
    | some (.ob j p) => if j = k then none else some (.ob j p)
    | x => x
  have hn : ∀ b, ω b = none → ω' b = none := fun b hb => by simp [ω', hb]
  have hN : ∀ p b, ω b = some (.ob k p) → ω' b = none := fun p b hb => by simp [ω', hb]
  have hc : Chg (fun o => ∃ p, o = .ob k p) γ ω w γ ω' w := by
    refine ⟨rfl, rfl, rfl, Nat.le_refl _, fun _ _ h => h, fun b _ h0 => ⟨rfl, hn b h0⟩, fun b o _ h0 hno => ⟨rfl, ?_⟩⟩
    cases o with
    | ob j p =>
      simp only [ω', h0]
      rw [if_neg (fun e => hno ⟨p, by rw [e]⟩)]
    | outer => simp only [ω', h0]
  have hlt : ∀ b, w.heap.size ≤ b → ω' b = none := fun b hb => hn b (h.lt b hb)
  have hR := h.turn hc hlt (B' := st.B.set k none) (by simp [h.len]) (fun j o' hj => by
    rw [List.getElem?_set] at hj
    by_cases e : k = j
    · subst e; split at hj
      · split at hj <;> simp at hj
      · rename_i hne; exact absurd rfl hne
    · rw [if_neg e] at hj
      exact .inl ⟨hj, fun p ⟨q, hq⟩ => by injection hq with hq; exact e hq.symm⟩)
  have hmv : ∀ v, γ[k]? = some v → Rep γ ω' w m v := fun v hv => by
    rw [g1] at hv; injection hv with hv; subst hv
    exact (content_ok hm g2 hn hN).2
  refine ⟨ω', hc.mono (fun o ⟨p, hp⟩ => by rw [hp]; simp), ⟨hR.size, hR.defers, hR.lt, hR.gl, by rw [hR.len]; exact (subB_len k m _).symm, fun s => ?_, fun j o' hj => ?_⟩, hmv⟩
  · show Rep γ ω' w (lk (subV k m st.v) s) _
    rw [lk_subV]
    exact (hR.slots s).sub hmv
  · rcases subB_get k m _ j o' hj with h1 | ⟨cs, h1, rfl⟩
    · exact hR.objs j o' h1
    · obtain ⟨hd', q1, blk, cur, e, q2, q3, q4, q5, q6, q7⟩ := hR.objs j _ h1
      refine ⟨hd', q1, blk, cur, e, q2, q3, q4, q5, by rw [subL_len]; exact q6, fun i c hi => ?_⟩
      rw [subL_get] at hi
      cases hci : cs[i]? with
      | none => rw [hci] at hi; simp at hi
      | some c0 =>
        rw [hci] at hi; simp at hi; subst hi
        obtain ⟨u, r1, r2, r3⟩ := q7 i c0 hci
        exact ⟨u, r1, r2, r3.sub hmv⟩
end

/-! The references of a value that are to be shared. -/
mutual
def refs : MV → List Nat
  | .ref k => [k]
  | .agg cs => refsL cs
  | .tup cs => refsL cs
  | _ => []
def refsL : List MV → List Nat
  | [] => []
  | m :: r => refs m ++ refsL r
end
/-- All of them are shared. -/
def St.retL (st : St) : List Nat → Option St
  | [] => some st
  | k :: r => match st.B[k]? with
    | some (some o) => match content o with
      | some m => (st.retire k m).retL r
      | none => none
    | _ => none
/-- A slot's value, shared. -/
def St.shr (st : St) (x : Operand) : Option St := match shv st x with
  | some m => st.retL (refs m)
  | none => none
def St.shrs (st : St) : List Operand → Option St
  | [] => some st
  | x :: r => match st.shr x with
    | some st' => st'.shrs r
    | none => none

section
variable {P : Program} {γ γ' : List Value} {ω ω' : Own} {w w' : World} {nt : Nat} {st st' : St} {a : Act}
theorem Rel.retL : ∀ (l : List Nat) {ω : Own} {st st' : St}, Rel γ ω w nt st a → st.retL l = some st' → ∃ ω', Chg NotOuter γ ω w γ ω' w ∧ Rel γ ω' w nt st' a
  | [], ω, st, st', h, hs => by simp [St.retL] at hs; subst hs; exact ⟨ω, Chg.refl _ _ _ _, h⟩
  | k :: r, ω, st, st', h, hs => by
    unfold St.retL at hs
    split at hs
    · rename_i o hk
      split at hs
      · rename_i m hm
        obtain ⟨ω1, h1, h2, _⟩ := h.retire hk hm
        obtain ⟨ω2, h3, h4⟩ := Rel.retL r h2 hs
        exact ⟨ω2, h1.trans h3, h4⟩
      · exact absurd hs (by simp)
    · exact absurd hs (by simp)
theorem Rel.shr (h : Rel γ ω w nt st a) {x : Operand} (hs : st.shr x = some st') : ∃ ω', Chg NotOuter γ ω w γ ω' w ∧ Rel γ ω' w nt st' a := by
  unfold St.shr at hs
  split at hs
  · exact Rel.retL _ h hs
  · exact absurd hs (by simp)
theorem Rel.shrs : ∀ (xs : List Operand) {ω : Own} {st st' : St}, Rel γ ω w nt st a → st.shrs xs = some st' → ∃ ω', Chg NotOuter γ ω w γ ω' w ∧ Rel γ ω' w nt st' a
  | [], ω, st, st', h, hs => by simp [St.shrs] at hs; subst hs; exact ⟨ω, Chg.refl _ _ _ _, h⟩
  | x :: r, ω, st, st', h, hs => by
    unfold St.shrs at hs
    split at hs
    · rename_i st1 h1
      obtain ⟨ω1, g1, g2⟩ := h.shr h1
      obtain ⟨ω2, g3, g4⟩ := Rel.shrs r g2 hs
      exact ⟨ω2, g1.trans g3, g4⟩
    · exact absurd hs (by simp)
end
end Go.Pv
