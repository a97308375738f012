/- The library of this work, H texts, part J: stores are right. -/
import Derived.Test.YtlfbfhgoehndpaaGreatDoorHI
set_option linter.unusedVariables false
set_option linter.unusedSimpArgs false
namespace Go.Pv
section
variable {α : Type} {E : Env} {P : Program} {x : α} {γ γ' : List Value} {ω ω' : Own} {w w' : World} {nt : Nat} {st : St} {a : Act} {K : St → Option α}

theorem set_none {B : Bxs} {k : Nat} {j : Nat} {o : Ob} (hj : (B.set k none)[j]? = some (some o)) : B[j]? = some (some o) ∧ j ≠ k := by
  rw [List.getElem?_set] at hj
  by_cases e : k = j
  · subst e; split at hj
    · split at hj <;> simp at hj
    · rename_i hne; exact absurd rfl hne
  · rw [if_neg e] at hj; exact ⟨hj, fun e2 => e e2.symm⟩
theorem set_some {B : Bxs} {k : Nat} {j : Nat} {o o' : Ob} (hj : (B.set k (some o'))[j]? = some (some o)) : (j = k ∧ o = o') ∨ (B[j]? = some (some o) ∧ j ≠ k) := by
  rw [List.getElem?_set] at hj
  by_cases e : k = j
  · subst e; split at hj
    · split at hj
      · injection hj with hj; injection hj with hj; exact .inl ⟨rfl, hj.symm⟩
      · simp at hj
    · rename_i hne; exact absurd rfl hne
  · rw [if_neg e] at hj; exact .inr ⟨hj, fun e2 => e e2.symm⟩

/-- An object turns in place. -/
theorem Rel.inplace (h : Rel γ ω w nt st a) {k : Nat} {o o' : Ob} (hk : st.B[k]? = some (some o)) (hc : Chg (fun o => ∃ p, o = .ob k p) γ ω w γ ω' w') (hlt : ∀ b, w'.heap.size ≤ b → ω' b = none)
    (ho : ∀ hd, γ[k]? = some hd → ObR γ ω w k o hd → ObR γ ω' w' k o' hd) : Rel γ ω' w' nt ⟨st.v, st.B.set k (some o')⟩ a := by
  refine h.turn hc hlt (by simp [h.len]) (fun j q hj => ?_)
  rcases set_some hj with ⟨rfl, rfl⟩ | ⟨h1, h2⟩
  · obtain ⟨hd, g1, g2⟩ := h.objs j o hk
    exact .inr ⟨hd, g1, ho hd g1 g2⟩
  · exact .inl ⟨h1, fun p ⟨q, e⟩ => by injection e with e; exact h2 e⟩

theorem lkF_no : ∀ {foc : List (Nat × Nat × Nat)} {j i : Nat}, noF foc j i = true → lkF foc j i = none
  | [], j, i, _ => rfl
  | (j', i', k) :: r, j, i, h => by
    simp only [noF, Bool.and_eq_true, Bool.not_eq_true'] at h
    simp only [lkF]
    rw [if_neg (fun e => by rw [e.2] at h; simp at h)]
    exact lkF_no h.2

theorem setC_len : ∀ (es : List (List MV)) (j i : Nat) (c : MV), (setC es j i c).length = es.length
  | [], _, _, _ => rfl
  | y :: r, 0, i, c => rfl
  | y :: r, j + 1, i, c => by simp [setC, setC_len r j i c]
theorem setC_get : ∀ (es : List (List MV)) (j i : Nat) (c : MV) (q : Nat), (setC es j i c)[q]? = if q = j then (es[j]?).map (fun y => y.set i c) else es[q]?
  | [], j, i, c, q => by simp [setC]
  | y :: r, 0, i, c, 0 => by simp [setC]
  | y :: r, 0, i, c, q + 1 => by simp [setC]
  | y :: r, j + 1, i, c, 0 => by simp [setC]
  | y :: r, j + 1, i, c, q + 1 => by
    simp only [setC, List.getElem?_cons_succ, setC_get r j i c q, Nat.add_right_cancel_iff]
theorem setC_some : ∀ {es : List (List MV)} {j i : Nat} {c : MV} {y : List MV}, es[j]? = some y → setC es j i c = es.set j (y.set i c)
  | y :: r, 0, i, c, y', h => by simp at h; subst h; rfl
  | y :: r, j + 1, i, c, y', h => by simp [setC, setC_some (es := r) (by simpa using h)]
theorem setV_len : ∀ (m : List (MKey × MV)) (j : Nat) (v : MV), (setV m j v).length = m.length
  | [], _, _ => rfl
  | x :: r, 0, v => rfl
  | x :: r, j + 1, v => by simp [setV, setV_len r j v]
theorem setV_get : ∀ (m : List (MKey × MV)) (j : Nat) (v : MV) (q : Nat), (setV m j v)[q]? = if q = j then (m[j]?).map (fun x => (x.1, v)) else m[q]?
  | [], j, v, q => by simp [setV]
  | x :: r, 0, v, 0 => by simp [setV]
  | x :: r, 0, v, q + 1 => by simp [setV]
  | x :: r, j + 1, v, 0 => by simp [setV]
  | x :: r, j + 1, v, q + 1 => by
    simp only [setV, List.getElem?_cons_succ, setV_get r j v q, Nat.add_right_cancel_iff]
/-- A focus is folded in. -/
theorem Rel.fold (h : Rel γ ω w nt st a) {k k2 sz j i : Nat} {es : List (List MV)} {foc : List (Nat × Nat × Nat)} (hk : st.B[k]? = some (some (.row true sz es ((j, i, k2) :: foc)))) {dp2 : Bool} {sz2 : Nat} {es2 : List (List MV)} (hk2 : st.B[k2]? = some (some (.row dp2 sz2 es2 []))) (hne : k ≠ k2) (hno : lkF foc j i = none) :
    ∃ ω', Chg (fun o => ∃ j p, o = .ob j p) γ ω w γ ω' w ∧ Rel γ ω' w nt ⟨st.v, (st.B.set k2 none).set k (some (.row true sz (setC es j i (.hold dp2 sz2 (.list es2))) foc))⟩ a := by
  obtain ⟨hd, g1, e, xs, g2⟩ := h.objs k _ hk
  obtain ⟨hd2, q1, e2, xs2, q2⟩ := h.objs k2 _ hk2
  let ω' : Own := fun b => match ω b with
    | some (.ob q p) => if q = k2 then some (.ob k ((j, i) :: p)) else some (.ob q p)
    | x => x
  have hn : ∀ b, ω b = none → ω' b = none := fun b hb => by simp [ω', hb]
  have hk2m : ∀ p b, ω b = some (.ob k2 p) → ω' b = some (.ob k ((j, i) :: p)) := fun p b hb => by simp [ω', hb]
  have hoth : ∀ q p b, q ≠ k2 → ω b = some (.ob q p) → ω' b = some (.ob q p) := fun q p b hq hb => by simp [ω', hb, hq]
  have hc : Chg (fun o => ∃ p, o = .ob k2 p) γ ω w γ ω' w := by
    refine ⟨rfl, rfl, rfl, Nat.le_refl _, fun _ _ h => h, fun b _ h0 => ⟨rfl, hn b h0⟩, fun b o _ h0 hno => ⟨rfl, ?_⟩⟩
    cases o with
    | ob q p => exact hoth q p b (fun e => hno ⟨p, by rw [e]⟩) h0
    | outer => simp [ω', h0]
  have hlt : ∀ b, w.heap.size ≤ b → ω' b = none := fun b hb => hn b (h.lt b hb)
  refine ⟨ω', hc.mono (fun o ⟨p, hp⟩ => ⟨k2, p, hp⟩), h.turn hc hlt (by simp [h.len]) (fun q o hq => ?_)⟩
  rcases set_some hq with ⟨rfl, rfl⟩ | ⟨r1, r2⟩
  · refine .inr ⟨hd, g1, e, xs, ?_⟩
    have hm := g2.moved (ω' := ω') (N' := .ob q) hc.keeps (fun p b _ h0 => ⟨rfl, hoth q p b hne h0⟩)
    refine .of (by rw [setC_len]; exact hm.own) ⟨by rw [setC_len]; exact hm.len, fun z hz => ?_, hm.one, fun j' z hz i' c hi' => ?_⟩ hm.blk
    · obtain ⟨q, hq⟩ := List.mem_iff_getElem?.1 hz
      rw [setC_get] at hq
      split at hq
      · obtain ⟨y, hy, rfl⟩ := Option.map_eq_some_iff.1 hq
        simp; exact hm.wid y (List.mem_of_getElem? hy)
      · exact hm.wid z (List.mem_of_getElem? hq)
    · rw [setC_get] at hz
      by_cases hj : j' = j
      · subst hj
        rw [if_pos rfl] at hz
        obtain ⟨y, hy, rfl⟩ := Option.map_eq_some_iff.1 hz
        rw [List.getElem?_set] at hi'
        by_cases hi : i = i'
        · subst hi
          split at hi'
          · split at hi'
            · rename_i hil
              injection hi' with hi'; subst hi'
              obtain ⟨u, hu, hr⟩ := hm.cell j' y i _ hy (List.getElem?_eq_getElem hil)
              simp only [lkF, and_self, if_true] at hr
              refine ⟨u, hu, ?_⟩
              simp only [CR, hno]
              refine ⟨fun e => by simp at e, ?_⟩
              rw [q1] at hr; injection hr with hr; subst hr
              exact q2.toCell.moved hc.keeps (fun p b _ h0 => ⟨rfl, hk2m p b h0⟩)
            · simp at hi'
          · rename_i hne2; exact absurd rfl hne2
        · rw [if_neg hi] at hi'
          obtain ⟨u, hu, hr⟩ := hm.cell j' y i' c hy hi'
          refine ⟨u, hu, ?_⟩
          simp only [lkF] at hr
          rw [if_neg (fun e => hi e.2)] at hr
          exact hr
      · rw [if_neg hj] at hz
        obtain ⟨u, hu, hr⟩ := hm.cell j' z i' c hz hi'
        refine ⟨u, hu, ?_⟩
        simp only [lkF] at hr
        rw [if_neg (fun e => hj e.1.symm)] at hr
        exact hr
  · obtain ⟨r3, r4⟩ := set_none r1
    exact .inl ⟨r3, fun p ⟨p', e⟩ => by injection e with e; exact r4 e⟩

/-- A focus of a map is folded in. -/
theorem Rel.foldM (h : Rel γ ω w nt st a) {k k2 j : Nat} {m : List (MKey × MV)} (hk : st.B[k]? = some (some (.map true m [(j, k2)]))) {dp2 : Bool} {sz2 : Nat} {es2 : List (List MV)} (hk2 : st.B[k2]? = some (some (.row dp2 sz2 es2 []))) (hne : k ≠ k2) :
    ∃ ω', Chg (fun o => ∃ j p, o = .ob j p) γ ω w γ ω' w ∧ Rel γ ω' w nt ⟨st.v, (st.B.set k2 none).set k (some (.map true (setV m j (.hold dp2 sz2 (.list es2))) []))⟩ a := by
  obtain ⟨hd, g1, blk, es, clock, gv, g2⟩ := h.objs k _ hk
  obtain ⟨hd2, q1, e2, xs2, q2⟩ := h.objs k2 _ hk2
  let bn : Nat := ((es[j]?).map (·.born)).getD 0
  let ω' : Own := fun b => match ω b with
    | some (.ob q p) => if q = k2 then some (.ob k ((bn, 0) :: p)) else some (.ob q p)
    | x => x
  have hn : ∀ b, ω b = none → ω' b = none := fun b hb => by simp [ω', hb]
  have hk2m : ∀ p b, ω b = some (.ob k2 p) → ω' b = some (.ob k ((bn, 0) :: p)) := fun p b hb => by simp [ω', hb]
  have hoth : ∀ q p b, q ≠ k2 → ω b = some (.ob q p) → ω' b = some (.ob q p) := fun q p b hq hb => by simp [ω', hb, hq]
  have hc : Chg (fun o => ∃ p, o = .ob k2 p) γ ω w γ ω' w := by
    refine ⟨rfl, rfl, rfl, Nat.le_refl _, fun _ _ h => h, fun b _ h0 => ⟨rfl, hn b h0⟩, fun b o _ h0 hno => ⟨rfl, ?_⟩⟩
    cases o with
    | ob q p => exact hoth q p b (fun e => hno ⟨p, by rw [e]⟩) h0
    | outer => simp [ω', h0]
  have hlt : ∀ b, w.heap.size ≤ b → ω' b = none := fun b hb => hn b (h.lt b hb)
  refine ⟨ω', hc.mono (fun o ⟨p, hp⟩ => ⟨k2, p, hp⟩), h.turn hc hlt (by simp [h.len]) (fun q o hq => ?_)⟩
  rcases set_some hq with ⟨rfl, rfl⟩ | ⟨r1, r2⟩
  · refine .inr ⟨hd, g1, blk, es, clock, gv, ?_⟩
    have hm := g2.moved (ω' := ω') (N' := .ob q) hc.keeps (fun p b _ h0 => ⟨rfl, hoth q p b hne h0⟩)
    refine ⟨hm.own, hm.lt, hm.heap, by rw [setV_len]; exact hm.len, fun i x e hx he => ?_, fun i x e hx he => ?_, hm.born, hm.nodup, fun x hx y hy => ?_⟩
    · rw [setV_get] at hx
      split at hx
      · rename_i hij; subst hij
        obtain ⟨x0, h0, rfl⟩ := Option.map_eq_some_iff.1 hx
        exact hm.key _ x0 e h0 he
      · exact hm.key i x e hx he
    · simp only [lkK]
      rw [setV_get] at hx
      split at hx
      · rename_i hij; subst hij
        obtain ⟨x0, h0, rfl⟩ := Option.map_eq_some_iff.1 hx
        have hv := hm.val _ x0 e h0 he
        simp only [lkK, if_true] at hv
        refine ⟨fun e => by simp at e, ?_⟩
        rw [q1] at hv; injection hv with hv; subst hv
        have hb : bn = e.born := by simp [bn, he]
        exact q2.toCell.moved hc.keeps (fun p b _ h0 => ⟨rfl, by rw [← hb]; exact hk2m p b h0⟩)
      · rename_i hij
        have hv := hm.val i x e hx he
        simp only [lkK] at hv
        rw [if_neg (fun e => hij e.symm)] at hv
        exact hv
    · have key : ∀ x ∈ setV m j (.hold dp2 sz2 (.list es2)), ∃ y ∈ m, y.1 = x.1 := by
        intro x hx
        obtain ⟨i, hi⟩ := List.mem_iff_getElem?.1 hx
        rw [setV_get] at hi
        split at hi
        · obtain ⟨x0, h0, rfl⟩ := Option.map_eq_some_iff.1 hi
          exact ⟨x0, List.mem_of_getElem? h0, rfl⟩
        · exact ⟨x, List.mem_of_getElem? hi, rfl⟩
      obtain ⟨x1, m1, e1⟩ := key x hx
      obtain ⟨y1, m2, e2⟩ := key y hy
      rw [← e1, ← e2]; exact hm.same x1 m1 y1 m2
  · obtain ⟨r3, r4⟩ := set_none r1
    exact .inl ⟨r3, fun p ⟨p', e⟩ => by injection e with e; exact r4 e⟩

theorem fold_ok (h : Rel γ ω w nt st a) {k : Nat} (hx : foldF st k K = some x) : ∃ ω' st', Chg (fun o => ∃ j p, o = .ob j p) γ ω w γ ω' w ∧ Rel γ ω' w nt st' a ∧ K st' = some x := by
  unfold foldF at hx
  split at hx
  · rename_i sz es j i k2 foc hk
    split at hx
    · rename_i dp2 sz2 es2 hk2
      replace hx := sB_some hx; obtain ⟨h1, hx⟩ := hx
      simp only [Bool.and_eq_true, Bool.not_eq_true'] at h1
      have hne : k ≠ k2 := by intro e; subst e; have := h1.1; simp at this
      obtain ⟨ω1, q1, q2⟩ := h.fold hk hk2 hne (lkF_no h1.2)
      exact ⟨ω1, _, q1, q2, hx⟩
    · exact absurd hx (by simp)
  · rename_i m j k2 hk
    split at hx
    · rename_i dp2 sz2 es2 hk2
      replace hx := sB_some hx; obtain ⟨h1, hx⟩ := hx
      simp only [Bool.not_eq_true'] at h1
      have hne : k ≠ k2 := by intro e; subst e; simp at h1
      obtain ⟨ω1, q1, q2⟩ := h.foldM hk hk2 hne
      exact ⟨ω1, _, q1, q2, hx⟩
    · exact absurd hx (by simp)
  · exact absurd hx (by simp)

theorem folds_ok : ∀ (n : Nat) {ω : Own} {st : St}, Rel γ ω w nt st a → ∀ {k : Nat}, foldsF n st k K = some x → ∃ ω' st', Chg (fun o => ∃ j p, o = .ob j p) γ ω w γ ω' w ∧ Rel γ ω' w nt st' a ∧ K st' = some x
  | 0, ω, st, h, k, hx => ⟨ω, st, Chg.refl _ _ _ _, h, hx⟩
  | n + 1, ω, st, h, k, hx => by
    unfold foldsF at hx
    obtain ⟨ω1, st1, h1, h2, h3⟩ := fold_ok h hx
    obtain ⟨ω2, st2, h4, h5, h6⟩ := folds_ok n h2 h3
    exact ⟨ω2, st2, h1.trans h4, h5, h6⟩

theorem ob_notouter {γ γ' : List Value} {ω ω' : Own} {w w' : World} (h : Chg (fun o => ∃ j p, o = .ob j p) γ ω w γ' ω' w') : Chg NotOuter γ ω w γ' ω' w' := h.mono (fun o ⟨j, p, e⟩ => by rw [e]; simp)
theorem ob_notouter1 {k : Nat} {γ γ' : List Value} {ω ω' : Own} {w w' : World} (h : Chg (fun o => ∃ p, o = .ob k p) γ ω w γ' ω' w') : Chg NotOuter γ ω w γ' ω' w' := h.mono (fun o ⟨p, e⟩ => by rw [e]; simp)

theorem ovr_get {α : Type} {cs ds : List α} {off : Nat} (h : off + ds.length ≤ cs.length) (i : Nat) : (cs.take off ++ ds ++ cs.drop (off + ds.length))[i]? = if i < off then cs[i]? else if i < off + ds.length then ds[i - off]? else cs[i]? := by
  have l0 : (cs.take off).length = off := by simp; omega
  split
  · rename_i hi
    rw [List.append_assoc, List.getElem?_append_left (by omega), List.getElem?_take, if_pos hi]
  · rename_i hi
    rw [List.append_assoc, List.getElem?_append_right (by omega), l0]
    split
    · rename_i hi2
      rw [List.getElem?_append_left (by omega)]
    · rename_i hi2
      rw [List.getElem?_append_right (by omega), List.getElem?_drop]
      congr 1; omega

/-- Cells of one element of a row turn. -/
theorem row_store {R R' : Nat → Nat → MV → Value → Prop} {sz : Nat} {es : List (List MV)} {xs us : List Value} {i off : Nat} {e ds : List MV} (hcl : CellsP R sz es xs) (he : es[i]? = some e) (ho : off + ds.length ≤ sz) (hul : us.length = ds.length) (hu1 : ∀ u ∈ us, u.oneCell' = true)
    (hnew : ∀ (q : Nat) (c : MV) (u : Value), ds[q]? = some c → us[q]? = some u → R' i (off + q) c u) (hold : ∀ j q c u, R j q c u → (j = i → q < off ∨ off + ds.length ≤ q) → R' j q c u) :
    CellsP R' sz (es.set i (e.take off ++ ds ++ e.drop (off + ds.length))) (xs.take (i * sz + off) ++ us ++ xs.drop (i * sz + off + us.length)) := by
  have hil : i < es.length := (List.getElem?_eq_some_iff.1 he).1
  have hel : e.length = sz := hcl.wid e (List.mem_of_getElem? he)
  have hrow : i * sz + sz ≤ es.length * sz := by
    have : (i + 1) * sz ≤ es.length * sz := Nat.mul_le_mul_right sz hil
    rw [Nat.add_mul, Nat.one_mul] at this; exact this
  have hxl := hcl.len
  have hxget := fun q => ovr_get (cs := xs) (ds := us) (off := i * sz + off) (by omega) q
  have heget := fun q => ovr_get (cs := e) (ds := ds) (off := off) (by omega) q
  refine ⟨by simp [hxl, hul]; omega, fun y hy => ?_, fun u hu => ?_, fun j y hj q c hq => ?_⟩
  · rcases List.mem_or_eq_of_mem_set hy with hy | hy
    · exact hcl.wid y hy
    · subst hy; simp; omega
  · rcases List.mem_append.1 hu with hu | hu
    · rcases List.mem_append.1 hu with hu | hu
      · exact hcl.one u (List.mem_of_mem_take hu)
      · exact hu1 u hu
    · exact hcl.one u (List.mem_of_mem_drop hu)
  · rw [List.getElem?_set] at hj
    by_cases hji : i = j
    · subst hji
      rw [if_pos rfl, if_pos hil] at hj
      injection hj with hj
      subst hj
      have hq' := hq
      rw [heget] at hq
      have hqs : q < sz := by
        have := (List.getElem?_eq_some_iff.1 hq').1
        simp at this; omega
      split at hq
      · rename_i h1
        obtain ⟨u, g1, g2⟩ := hcl.cell i e he q c hq
        refine ⟨u, by rw [hxget, if_pos (by omega)]; exact g1, hold i q c u g2 (fun _ => .inl h1)⟩
      · rename_i h1
        split at hq
        · rename_i h2
          have hiu : q - off < us.length := by omega
          refine ⟨us[q - off], by rw [hxget, if_neg (by omega), if_pos (by omega), show i * sz + q - (i * sz + off) = q - off from by omega]; exact List.getElem?_eq_getElem hiu, ?_⟩
          have := hnew (q - off) c _ hq (List.getElem?_eq_getElem hiu)
          rw [show off + (q - off) = q from by omega] at this; exact this
        · rename_i h2
          obtain ⟨u, g1, g2⟩ := hcl.cell i e he q c hq
          refine ⟨u, by rw [hxget, if_neg (by omega), if_neg (by omega)]; exact g1, hold i q c u g2 (fun _ => .inr (by omega))⟩
    · rw [if_neg hji] at hj
      obtain ⟨u, g1, g2⟩ := hcl.cell j y hj q c hq
      have hjl : j < es.length := (List.getElem?_eq_some_iff.1 hj).1
      have hqs : q < sz := by rw [← hcl.wid y (List.mem_of_getElem? hj)]; exact (List.getElem?_eq_some_iff.1 hq).1
      refine ⟨u, ?_, hold j q c u g2 (fun e => absurd e.symm hji)⟩
      rw [hxget]
      rcases Nat.lt_or_ge j i with h1 | h1
      · have : (j + 1) * sz ≤ i * sz := Nat.mul_le_mul_right sz h1
        rw [Nat.add_mul, Nat.one_mul] at this
        rw [if_pos (by omega)]; exact g1
      · have : (i + 1) * sz ≤ j * sz := Nat.mul_le_mul_right sz (by omega)
        rw [Nat.add_mul, Nat.one_mul] at this
        rw [if_neg (by omega), if_neg (by omega)]; exact g1

/-- A store into a row: how it runs, and the row behind it. -/
theorem row_sto (h : Rel γ ω w nt st a) {k sz i off : Nat} {dp : Bool} {es : List (List MV)} {foc foc' : List (Nat × Nat × Nat)} (hk : st.B[k]? = some (some (.row dp sz es foc))) {T : TypeId} (hne : szOf P T ≠ 0) {v : Value} {us : List Value} (hv : v.cells = us.toArray) {e ds : List MV} (he : es[i]? = some e) (hul : us.length = ds.length) (hdl : ds.length = szOf P T) (ho : off + ds.length ≤ sz)
    (hu1 : ∀ u ∈ us, u.oneCell' = true) (hnew : ∀ {w' : World}, Keeps γ ω w γ ω w' → ∀ (q : Nat) (c : MV) (u : Value), ds[q]? = some c → us[q]? = some u → CR γ ω w' (.ob k) foc' dp i (off + q) c u)
    (hfoc : ∀ j q, (j = i → q < off ∨ off + ds.length ≤ q) → lkF foc' j q = lkF foc j q) {blk len cap : Nat} (hb : γ[k]? = some (.slice (some ⟨blk, 0, none⟩) len cap)) :
    ∃ w', (Instr.storeAt T (.pointer (some ⟨blk, i * sz + off, none⟩)) v).run P w = .ok () w' ∧ Chg (fun o => ∃ p, o = .ob k p) γ ω w γ ω w' ∧ Rel γ ω w' nt ⟨st.v, st.B.set k (some (.row dp sz (es.set i (e.take off ++ ds ++ e.drop (off + ds.length))) foc'))⟩ a := by
  obtain ⟨ti, hti, hts⟩ := szOf_ne hne
  obtain ⟨hd, g1, e', xs, g2⟩ := h.objs k _ hk
  rw [hb] at g1; injection g1 with g1; subst g1
  have hil : i < es.length := (List.getElem?_eq_some_iff.1 he).1
  rcases g2.own.2 with ⟨hn, _⟩ | ⟨g, cap', cur, heq, _, hg, hle, hmx, hcs, htk⟩
  · exact absurd hn (by simp)
  · injection heq with q1 q2 q3
    injection q1 with q1; injection q1 with q1; subst q1; subst q2; subst q3
    have hsz : 0 < sz := by omega
    have hrow : i * sz + sz ≤ es.length * sz := by
      have : (i + 1) * sz ≤ es.length * sz := Nat.mul_le_mul_right sz hil
      rw [Nat.add_mul, Nat.one_mul] at this; exact this
    have hcap : es.length * sz ≤ cur.size := by rw [hcs]; exact Nat.mul_le_mul_right _ hle
    have hrun := run_storeT (P := P) (ty_of hti) (w := w) (g := blk) (o := i * sz + off) (e := e') (cur := cur) hg hv (by omega) (by omega) hu1
    let w' := w.setRow blk (cur.toList.take (i * sz + off) ++ us ++ cur.toList.drop (i * sz + off + us.length)).toArray
    have hgb : ∀ b, b ≠ blk → w'.heap[b]? = w.heap[b]? := fun b hb => setRow_other w blk b _ hb
    have hsizew : w'.heap.size = w.heap.size := by simp [w', World.setRow]
    have hog := g2.blk blk rfl
    have hc1 : Chg (fun o => o = .ob k []) γ ω w γ ω w' := by
      refine ⟨rfl, rfl, rfl, by omega, fun _ _ h => h, fun b hb h0 => ⟨hgb b (fun e => ?_), h0⟩, fun b o hb h0 hn => ⟨hgb b (fun e => ?_), h0⟩⟩
      · subst e; rw [hog.1] at h0; exact absurd h0 (by simp)
      · subst e; rw [hog.1] at h0; injection h0 with h0; exact hn h0.symm
    have hcg : Chg (fun o => ∃ p, o = .ob k p) γ ω w γ ω w' := hc1.mono (fun o e => ⟨[], e⟩)
    have hlt' : ∀ b, w'.heap.size ≤ b → ω b = none := fun b hb => h.lt b (by omega)
    refine ⟨w', hrun, hcg, h.inplace hk hcg hlt' (fun hd q1 _ => ?_)⟩
    rw [hb] at q1; injection q1 with q1; subst q1
    have hxl : xs.length = es.length * sz := g2.len
    have hcells := row_store (R' := CR γ ω w' (.ob k) foc' dp) g2.cellsP he ho hul hu1 (hnew hcg.keeps) (fun j q c u hr hjq => by
      simp only [CR] at hr ⊢
      rw [hfoc j q hjq]
      split at hr
      · exact hr
      · exact ⟨hr.1, hr.2.moved hcg.keeps (fun p b hb h0 => hc1.keep b _ hb h0 (by simp))⟩)
    refine ⟨e', _, .of ⟨by rw [hcells.len], .inr ⟨blk, cap, _, by rw [List.length_set], Nat.zero_le _, setRow_heap w blk cur _ e' _ hg, by simpa using hle, hmx, ?_, ?_⟩⟩ hcells (fun b hb => ⟨(g2.blk b hb).1, by rw [hsizew]; exact (g2.blk b hb).2⟩)⟩
    · simp; omega
    · simp only [List.length_set]
      rw [← htk]
      have hcl2 : cur.toList.length = cur.size := Array.length_toList
      rw [List.take_append, List.take_append]
      have a1 : (cur.toList.take (i * sz + off)).length = i * sz + off := by simp; omega
      rw [a1]
      rw [List.take_of_length_le (l := cur.toList.take (i * sz + off)) (by rw [a1]; omega)]
      rw [List.take_of_length_le (l := us) (by omega)]
      rw [List.take_take, Nat.min_eq_left (by omega)]
      congr 1
      rw [List.drop_take]
      congr 1
      simp; omega

theorem lkF_nil (j i : Nat) : lkF [] j i = none := rfl

theorem stoE_ok (hE : E.Ok P) (h : Rel γ ω w nt st a) {T : TypeId} {t : Nat} {k sz i off : Nat} (hc : lk st.v t = .eref k sz i off) {y : Operand} (hx : stoEF E st T k sz i off y K = some x) :
    DoesU P nt γ ω w a (Instr.storeAt T (a.eval (.tmp t)) (a.eval y)) K x := by
  have hp := h.slot t hc
  obtain ⟨blk, len, cap, hb, hpe⟩ : ∃ blk len cap, γ[k]? = some (.slice (some ⟨blk, 0, none⟩) len cap) ∧ a.eval (.tmp t) = .pointer (some ⟨blk, i * sz + off, none⟩) := by
    generalize a.eval (.tmp t) = v at hp ⊢
    cases hp with
    | eref _ _ _ _ blk len cap hb => exact ⟨blk, len, cap, hb, rfl⟩
  rw [hpe]
  unfold stoEF at hx
  split at hx
  · replace hx := sO_some hx; obtain ⟨st', hst, hx⟩ := hx
    obtain ⟨ω1, hc1, hR1⟩ := h.shr hst
    split at hx
    · rename_i sz'' es hk
      replace hx := sO_some hx; obtain ⟨m, hm, hx⟩ := hx
      replace hx := rdN_some hx; obtain ⟨e, he, hx⟩ := hx
      replace hx := sB_some hx; obtain ⟨h1, hx⟩ := hx
      replace hx := sB_some hx; obtain ⟨h2, hx⟩ := hx
      replace hx := sB_some hx; obtain ⟨h3, hx⟩ := hx
      have := beq_nat h3; subst this
      split at hx
      · exact absurd hx (by simp)
      · rename_i sT hsT
        replace hx := sB_some hx; obtain ⟨h4, hx⟩ := hx
        replace hx := sB_some hx; obtain ⟨h5, hx⟩ := hx
        have hs := szE_ok hE hsT
        have h4 := beq_nat h4
        have h5 := ble_nat h5
        obtain ⟨us, g1, g2, g3, g4⟩ := cellsM_ok (hR1.shv hm) (noTup_ne h1).1 (noTup_ne h1).2
        obtain ⟨w', q1, q2, q3⟩ := row_sto (foc' := []) hR1 hk (P := P) (T := T) (by omega) g1 he (ds := cellsM m) g2 (by rw [h4, hs]) (by rw [h4]; exact h5) g3 (fun hkp q c u hq hu => by
          simp only [CR, lkF]
          have hnp := npL_get h2 q c hq
          exact ⟨fun _ => hnp, .rep _ _ _ hnp ((g4 q c u hq hu).keeps hkp)⟩) (fun _ _ _ => rfl) hb
        exact ⟨w', q1, γ, ω1, _, hc1.trans (ob_notouter1 q2), q3, hx⟩
    · exact absurd hx (by simp)
  · rename_i sz' es foc hk
    replace hx := sB_some hx; obtain ⟨h3, hx⟩ := hx
    have := beq_nat h3; subst this
    split at hx
    · rename_i k2 hk2s
      split at hx
      · rename_i dp2 sz2 es2 hk2
        replace hx := sB_some hx; obtain ⟨h1, hx⟩ := hx
        simp only [Bool.and_eq_true, Bool.not_eq_true'] at h1
        obtain ⟨⟨⟨h1, h2⟩, h4⟩, h5⟩ := h1
        have hne : k ≠ k2 := by intro e; subst e; simp at h5
        have hs := szE_ok hE (beq_nat h2)
        have ho := ble_nat h4
        replace hx := rdN_some hx; obtain ⟨e, he, hx⟩ := hx
        have hfo : (foc = [] ∨ ∃ k', foc = [(i, off, k')]) ∧ K ⟨st.v, (st.B.set k2 none).set k (some (.row true sz' (es.set i (e.set off (.hold dp2 sz2 (.list es2)))) []))⟩ = some x := by
          split at hx
          · exact ⟨.inl rfl, hx⟩
          · replace hx := sB_some hx; obtain ⟨h6, hx⟩ := hx
            replace hx := gd_some hx; obtain ⟨h7, hx⟩ := hx
            have := beq_nat h6; subst this; subst h7
            exact ⟨.inr ⟨_, rfl⟩, hx⟩
          · exact absurd hx (by simp)
        obtain ⟨hfo, hx⟩ := hfo
        have hr := h.shv hk2s
        obtain ⟨hd2, r1, e2, xs2, r2⟩ := h.objs k2 _ hk2
        have hva : a.eval y = hd2 ∧ hd2.oneCell' = true ∧ hd2.cells = #[hd2] := by
          generalize a.eval y = v at hr ⊢
          cases hr with
          | ref _ _ hb q1 q2 => rw [r1] at hb; injection hb with hb; subst hb; exact ⟨rfl, q1, q2⟩
        obtain ⟨hva, hv1, hv2⟩ := hva
        have hel : e.length = sz' := by
          obtain ⟨hd, g1, e', xs, g2⟩ := h.objs k _ hk
          exact g2.wid e (List.mem_of_getElem? he)
        obtain ⟨w', q1, q2, q3⟩ := row_sto (foc' := [(i, off, k2)]) h hk (P := P) (T := T) (by omega) (v := a.eval y) (us := [hd2]) (by rw [hva, hv2]) he (ds := [.bool false]) rfl (by simpa using hs.symm) (by simpa using ho) (by simpa using hv1) (fun hkp q c u hq hu => by
          cases q with
          | zero =>
            simp at hq hu; subst hu
            simp only [CR, lkF, Nat.add_zero, and_self, if_true]; exact r1
          | succ q => simp at hq) (fun j q hjq => by
          simp only [lkF]
          have h8 : ¬ (i = j ∧ off = q) := by rintro ⟨rfl, rfl⟩; have := hjq rfl; simp only [List.length_cons, List.length_nil] at this; omega
          rw [if_neg h8]
          rcases hfo with rfl | ⟨k', rfl⟩
          · rfl
          · simp only [lkF]; rw [if_neg h8]) hb
        have hk' : (st.B.set k (some (.row true sz' (es.set i (e.take off ++ [.bool false] ++ e.drop (off + [MV.bool false].length))) [(i, off, k2)])))[k]? = some (some (.row true sz' (es.set i (e.take off ++ [.bool false] ++ e.drop (off + [MV.bool false].length))) [(i, off, k2)])) := by
          have hkl : k < st.B.length := (List.getElem?_eq_some_iff.1 hk).1
          simp [hkl]
        have hk2' : (st.B.set k (some (.row true sz' (es.set i (e.take off ++ [.bool false] ++ e.drop (off + [MV.bool false].length))) [(i, off, k2)])))[k2]? = some (some (.row dp2 sz2 es2 [])) := by
          rw [List.getElem?_set, if_neg hne]; exact hk2
        have hil : i < es.length := (List.getElem?_eq_some_iff.1 he).1
        obtain ⟨ω2, s1, s2⟩ := q3.fold hk' hk2' hne rfl
        rw [setC_some (y := e.take off ++ [.bool false] ++ e.drop (off + [MV.bool false].length)) (by rw [List.getElem?_set]; simp [hil])] at s2
        have e1 : (e.take off ++ [MV.bool false] ++ e.drop (off + [MV.bool false].length)).set off (.hold dp2 sz2 (.list es2)) = e.set off (.hold dp2 sz2 (.list es2)) := by
          apply List.ext_getElem?
          intro q
          have := ovr_get (cs := e) (ds := [MV.bool false]) (off := off) (by simp; omega) q
          rw [List.getElem?_set, List.getElem?_set, this]
          have hl2 : (e.take off ++ [MV.bool false] ++ e.drop (off + [MV.bool false].length)).length = e.length := by simp; omega
          rw [hl2]
          by_cases hq : off = q
          · subst hq; simp
          · rw [if_neg hq, if_neg hq]
            split
            · rfl
            · rw [if_neg (by simp; omega)]
        have e2 : (st.B.set k (some (.row true sz' (es.set i (e.take off ++ [.bool false] ++ e.drop (off + [MV.bool false].length))) [(i, off, k2)]))).set k2 none = (st.B.set k2 none).set k (some (.row true sz' (es.set i (e.take off ++ [.bool false] ++ e.drop (off + [MV.bool false].length))) [(i, off, k2)])) := List.set_comm _ _ hne
        simp only [e1, e2, List.set_set] at s2
        exact ⟨w', q1, γ, ω2, _, (ob_notouter1 q2).trans (ob_notouter s1), s2, hx⟩
      · exact absurd hx (by simp)
    · rename_i m hno hm
      replace hx := sB_some hx; obtain ⟨h1, hx⟩ := hx
      replace hx := sB_some hx; obtain ⟨h2, hx⟩ := hx
      simp only [Bool.and_eq_true] at h1 h2
      obtain ⟨⟨⟨h1, h4⟩, h4a⟩, h5⟩ := h1
      obtain ⟨⟨h6, h7⟩, h8⟩ := h2
      replace hx := rdN_some hx; obtain ⟨e, he, hx⟩ := hx
      have hs := szE_ok hE (beq_nat h7)
      have ho := ble_nat h8
      obtain ⟨us, g1, g2, g3, g4⟩ := cellsM_ok (h.shv hm) (noTup_ne h4).1 (noTup_ne h4).2
      have h6 := beq_nat h6
      have hcm : cellsM m = [m] := by cases m <;> first | rfl | simp [notAgg] at h4a
      have hel : e.length = sz' := by
        obtain ⟨hd, g1, e', xs, g2⟩ := h.objs k _ hk
        exact g2.wid e (List.mem_of_getElem? he)
      rw [hcm] at g2 g4
      obtain ⟨w', q1, q2, q3⟩ := row_sto (foc' := foc) h hk (P := P) (T := T) (by omega) g1 he (ds := [m]) g2 (by simpa using hs.symm) (by simpa using ho) g3 (fun hkp q c u hq hu => by
        cases q with
        | zero =>
          simp at hq; subst hq
          simp only [CR, Nat.add_zero]
          have hno : lkF foc i off = none := by
            have hall := offs_all h5
            clear hk hx h5
            induction foc with
            | nil => rfl
            | cons f r ih =>
              obtain ⟨j, q, kk⟩ := f
              have := hall (j, q, kk) (by simp)
              simp only [lkF]
              rw [if_neg (fun e => this e.2)]
              exact ih (fun f hf => hall f (by simp [hf]))
          rw [hno]
          exact ⟨fun _ => h1, .rep _ _ _ h1 ((g4 0 m u rfl hu).keeps hkp)⟩
        | succ q => simp at hq) (fun _ _ _ => rfl) hb
      have e1 : e.take off ++ [m] ++ e.drop (off + [m].length) = e.set off m := by
        apply List.ext_getElem?
        intro q
        have := ovr_get (cs := e) (ds := [m]) (off := off) (by simp; omega) q
        rw [List.getElem?_set, this]
        by_cases hq : off = q
        · subst hq; simp; omega
        · rw [if_neg hq]
          split
          · rfl
          · rw [if_neg (by simp; omega)]
      rw [e1] at q3
      exact ⟨w', q1, γ, ω, _, ob_notouter1 q2, q3, hx⟩
    · exact absurd hx (by simp)
  · exact absurd hx (by simp)
end
end Go.Pv
