/- The library of this work, H texts, part Kd: cells that hold rows are opened; maps that hold rows. -/
import Derived.Test.YtlfbfhgoehndpaaGreatDoorHK
import Derived.Test.YtlfbfhgoehndpaaGreatDoorHKo
set_option linter.unusedVariables false
set_option linter.unusedSimpArgs false
noncomputable section
namespace Go.Pv

section
variable {α : Type}
/-- What a cell holds that holds a row. -/
def hdE (s : Nat) (e : List MV) (off : Nat) (K : List (List MV) → Option α) : Option α := match e[off]? with
  | some (.hold false s' (.list es)) => sB (Nat.beq s' s) (K es)
  | some .nil => K []
  | _ => none
def hdK (s : Nat) (m : List (MKey × MV)) (k : MKey) (K : List (List MV) → Option α) : Option α := match mget m k with
  | some (.hold false s' (.list es)) => sB (Nat.beq s' s) (K es)
  | some .nil => K []
  | some _ => none
  | none => K []
def mfix (m : List (MKey × MV)) (k : MKey) : Nat := match mfind m k 0 with
  | some (j, _) => j
  | none => m.length

def lfoF (E : Env) (st : St) (d : Nat) (T : TypeId) (x : Operand) (K : St → Option α) : Option α :=
  match lkN E.ty T with
  | some ti => (match ti.kd with
    | .slice e => (match szE E e with
      | 0 => none
      | s + 1 => (match x with
        | .tmp t => (match lk st.v t with
          | .eref k sz i off => (match st.B[k]? with
            | some (some (.row true sz' es [])) => sB (Nat.beq sz' sz) (rdN es i fun y => hdE (s + 1) y off fun es2 =>
                K ((⟨st.v, st.B.set k (some (.row true sz' es [(i, off, st.B.length)]))⟩ : St).newO (some d) (.row false (s + 1) es2 [])))
            | _ => none)
          | _ => none)
        | _ => none))
    | _ => none)
  | none => none

def lkdF (E : Env) (st : St) (d : Nat) (T : TypeId) (m k : Operand) (ok : Bool) (K : St → Option α) : Option α :=
  match ok with
  | true => none
  | false => (match kdE E T with
    | .map kT eT => (match lkN E.ty eT with
      | some ti => (match ti.kd, ti.zero with
        | .slice e, [.nil] => (match szE E e with
          | 0 => none
          | s + 1 => (match shv st m with
            | some (.ref q) => (match st.B[q]? with
              | some (some (.map true mm [])) => sO (opv st k) fun kv => sO (keyT (kdE E kT) kv) fun key => gK mm key (hdK (s + 1) mm key fun es2 =>
                  K ((⟨st.v, st.B.set q (some (.map true mm [(mfix mm key, st.B.length)]))⟩ : St).newO (some d) (.row false (s + 1) es2 [])))
              | _ => none)
            | _ => none))
        | _, _ => none)
      | none => none)
    | _ => none)

def deepM (st : St) (m : Operand) : Bool := match shv st m with
  | some (.ref q) => (match st.B[q]? with
    | some (some (.map true _ _)) => true
    | _ => false)
  | _ => false

def mudF (E : Env) (st : St) (T : TypeId) (m k v : Operand) (K : St → Option α) : Option α :=
  match kdE E T with
  | .map kT eT => (match shv st m with
    | some (.ref q) => (match st.B[q]? with
      | some (some (.map true mm foc)) => sO (opv st k) fun kv => sO (keyT (kdE E kT) kv) fun key => (match shv st v with
        | some (.ref k2) => (match st.B[k2]? with
          | some (some (.row dp2 sz2 es2 [])) => sB (!Nat.beq q k2) (match foc with
            | [] => gK mm key (K ⟨st.v, (st.B.set k2 none).set q (some (.map true (mset mm key (.hold dp2 sz2 (.list es2))) []))⟩)
            | [(j, _)] => gd (j = mfix mm key) (gK mm key (K ⟨st.v, (st.B.set k2 none).set q (some (.map true (mset mm key (.hold dp2 sz2 (.list es2))) []))⟩))
            | _ => none)
          | _ => none)
        | _ => none)
      | _ => none)
    | _ => none)
  | _ => none
end

section
variable {α : Type} {E : Env} {P : Program} {x : α} {γ γ' : List Value} {ω ω' : Own} {w w' : World} {nt : Nat} {st : St} {a : Act} {K : St → Option α}

theorem nodup_ix : ∀ {l : List Nat} (h : l.Nodup) {i j k : Nat} (hi : l[i]? = some k) (hj : l[j]? = some k), i = j := by
  intro l h i j k hi hj
  obtain ⟨a1, a2⟩ := List.getElem?_eq_some_iff.1 hi
  obtain ⟨b1, b2⟩ := List.getElem?_eq_some_iff.1 hj
  rcases Nat.lt_trichotomy i j with hij | hij | hij
  · exact absurd (a2.trans b2.symm) (List.pairwise_iff_getElem.1 h i j a1 b1 hij)
  · exact hij
  · exact absurd (b2.trans a2.symm) (List.pairwise_iff_getElem.1 h j i b1 a1 hij)
theorem hdE_some {s : Nat} {e : List MV} {off : Nat} {K : List (List MV) → Option α} (h : hdE s e off K = some x) : ∃ c es, e[off]? = some c ∧ (c = .hold false s (.list es) ∨ (c = .nil ∧ es = [])) ∧ K es = some x := by
  unfold hdE at h
  split at h
  · rename_i s' es he
    replace h := sB_some h; obtain ⟨h1, h⟩ := h
    have := beq_nat h1; subst this
    exact ⟨_, es, he, .inl rfl, h⟩
  · rename_i he
    exact ⟨_, [], he, .inr ⟨rfl, rfl⟩, h⟩
  · exact absurd h (by simp)
theorem hdK_some {s : Nat} {m : List (MKey × MV)} {k : MKey} {K : List (List MV) → Option α} (h : hdK s m k K = some x) : ∃ es, ((∃ c, mget m k = some c ∧ (c = .hold false s (.list es) ∨ (c = .nil ∧ es = []))) ∨ (mget m k = none ∧ es = [])) ∧ K es = some x := by
  unfold hdK at h
  split at h
  · rename_i s' es he
    replace h := sB_some h; obtain ⟨h1, h⟩ := h
    have := beq_nat h1; subst this
    exact ⟨es, .inl ⟨_, he, .inl rfl⟩, h⟩
  · rename_i he
    exact ⟨[], .inl ⟨_, he, .inr ⟨rfl, rfl⟩⟩, h⟩
  · exact absurd h (by simp)
  · rename_i he
    exact ⟨[], .inr ⟨he, rfl⟩, h⟩

/-- A cell that holds a row, or nil, as a row of its own; what is below N is below N' now. -/
theorem opened {N N' : List (Nat × Nat) → Owner} {s : Nat} {c : MV} {es : List (List MV)} {u : Value} (hc : c = .hold false s (.list es) ∨ (c = .nil ∧ es = [])) (h : CellT γ ω w N c u) (hk : Keeps γ ω w γ' ω' w)
    (hN : ∀ p b, b < w.heap.size → ω b = some (N p) → ω' b = some (N' p)) : (∃ e xs, RowR γ' ω' w N' [] false s es u e xs) ∧ u.oneCell' = true ∧ u.cells = #[u] := by
  rcases hc with rfl | ⟨rfl, rfl⟩
  · obtain ⟨e, xs, hr⟩ := h.toRow
    refine ⟨⟨e, xs, hr.moved hk (fun p b hb h0 => ⟨rfl, hN p b hb h0⟩)⟩, ?_⟩
    rcases hr.own.2 with ⟨rfl, _⟩ | ⟨g, cap, cur, rfl, _⟩ <;> exact ⟨rfl, rfl⟩
  · have hr := h.toRep rfl
    cases hr
    exact ⟨⟨0, [], .of (World.ownsRow_nil w 0 0 s) (.nil _ _) (fun b hb => by simp [Value.ownBlock] at hb)⟩, rfl, rfl⟩

/-- A cell of a row is opened. -/
theorem Rel.focus (h : Rel γ ω w nt st a) {k sz i off s : Nat} {es es2 : List (List MV)} (hk : st.B[k]? = some (some (.row true sz es []))) {y : List MV} (hy : es[i]? = some y) {c : MV} (hc : y[off]? = some c) (hcc : c = .hold false s (.list es2) ∨ (c = .nil ∧ es2 = []))
    {u : Value} (hu : ∃ hd e xs, γ[k]? = some hd ∧ RowR γ ω w (.ob k) [] true sz es hd e xs ∧ xs[i * sz + off]? = some u) {d : Nat} (hd : d < nt) :
    ∃ ω', Chg NotOuter γ ω w (γ ++ [u]) ω' w ∧ Rel (γ ++ [u]) ω' w nt ((⟨st.v, st.B.set k (some (.row true sz es [(i, off, st.B.length)]))⟩ : St).newO (some d) (.row false s es2 [])) (a.put (some d) u) := by
  obtain ⟨hd0, e, xs, g1, g2, hux⟩ := hu
  let k2 := st.B.length
  have hkl : k < k2 := (List.getElem?_eq_some_iff.1 hk).1
  let ω' : Own := fun b => match ω b with
    | some (.ob q ((j', i') :: p)) => if q = k ∧ j' = i ∧ i' = off then some (.ob k2 p) else some (.ob q ((j', i') :: p))
    | x => x
  have hn : ∀ b, ω b = none → ω' b = none := fun b hb => by simp [ω', hb]
  have hin : ∀ p b, ω b = some (.ob k ((i, off) :: p)) → ω' b = some (.ob k2 p) := fun p b hb => by simp [ω', hb]
  have hroot : ∀ q b, ω b = some (.ob q []) → ω' b = some (.ob q []) := fun q b hb => by simp [ω', hb]
  have hoth : ∀ q j' i' p b, ¬ (q = k ∧ j' = i ∧ i' = off) → ω b = some (.ob q ((j', i') :: p)) → ω' b = some (.ob q ((j', i') :: p)) := fun q j' i' p b hq hb => by simp only [ω', hb]; rw [if_neg hq]
  have hq : ∀ q p b, q ≠ k → ω b = some (.ob q p) → ω' b = some (.ob q p) := fun q p b hne hb => by
    cases p with
    | nil => exact hroot q b hb
    | cons z p => exact hoth q z.1 z.2 p b (fun e => hne e.1) hb
  have hc0 : Chg (fun o => ∃ p, o = .ob k p) γ ω w (γ ++ [u]) ω' w := by
    refine ⟨rfl, rfl, rfl, Nat.le_refl _, pre_app γ u, fun b _ h0 => ⟨rfl, hn b h0⟩, fun b o _ h0 hno => ⟨rfl, ?_⟩⟩
    cases o with
    | ob q p => exact hq q p b (fun e => hno ⟨p, by rw [e]⟩) h0
    | outer => simp [ω', h0]
  have hlt : ∀ b, w.heap.size ≤ b → ω' b = none := fun b hb => hn b (h.lt b hb)
  have hk2 : (γ ++ [u])[k2]? = some u := by
    show (γ ++ [u])[st.B.length]? = some u
    rw [← h.len]; simp
  obtain ⟨u', hu1, hu2⟩ := g2.cell i y off c hy hc
  rw [hux] at hu1; injection hu1 with hu1; subst hu1
  simp only [lkF] at hu2
  obtain ⟨hrow, o1, o2⟩ := opened (N' := .ob k2) hcc hu2.2 hc0.keeps (fun p b _ h0 => hin p b h0)
  have hR : Rel (γ ++ [u]) ω' w nt ⟨st.v, st.B.set k (some (.row true sz es [(i, off, k2)])) ++ [some (.row false s es2 [])]⟩ a := by
    refine h.turn hc0 hlt (by simp [h.len]) (fun q o hqo => ?_)
    rcases Nat.lt_or_ge q (st.B.set k (some (.row true sz es [(i, off, k2)]))).length with hq1 | hq1
    · rw [List.getElem?_append_left hq1] at hqo
      rcases set_some hqo with ⟨rfl, rfl⟩ | ⟨r1, r2⟩
      · refine .inr ⟨hd0, pre_app γ u _ _ g1, e, xs, g2.own, g2.len, g2.wid, g2.one, fun j' z i' c' hj' hi' => ?_, fun b hb => ⟨hroot _ b (g2.blk b hb).1, (g2.blk b hb).2⟩⟩
        obtain ⟨v, hv1, hv2⟩ := g2.cell j' z i' c' hj' hi'
        refine ⟨v, hv1, ?_⟩
        simp only [lkF] at hv2 ⊢
        by_cases hji : i = j' ∧ off = i'
        · obtain ⟨rfl, rfl⟩ := hji
          rw [if_pos ⟨rfl, rfl⟩]
          rw [hux] at hv1; injection hv1 with hv1; subst hv1
          exact hk2
        · rw [if_neg hji]
          exact ⟨hv2.1, hv2.2.moved hc0.keeps (fun p b _ h0 => ⟨rfl, hoth _ _ _ p b (fun e => hji ⟨e.2.1.symm, e.2.2.symm⟩) h0⟩)⟩
      · exact .inl ⟨r1, fun p ⟨p', e⟩ => by injection e with e; exact r2 e⟩
    · rw [List.getElem?_append_right hq1] at hqo
      have hqk : q = k2 := by
        have := (List.getElem?_eq_some_iff.1 hqo).1
        simp at this hq1; show q = st.B.length; omega
      subst hqk
      simp [k2] at hqo; subst hqo
      exact .inr ⟨u, hk2, hrow⟩
  refine ⟨ω', hc0.mono (fun o ⟨p, e⟩ => by rw [e]; simp), ?_⟩
  have := hR.put (d := d) hd (.ref k2 u hk2 o1 o2)
  simp only [St.newO, List.length_set]
  exact this

theorem lfo_ok (hE : E.Ok P) (h : Rel γ ω w nt st a) {d : Nat} (hd : d < nt) {T : TypeId} {y : Operand} (hx : lfoF E st d T y K = some x) : Does P nt γ ω w a (some d) (Instr.loadAt T (a.eval y)) K x := by
  unfold lfoF at hx
  split at hx
  · rename_i ti hti
    split at hx
    · rename_i e hkd
      split at hx
      · exact absurd hx (by simp)
      · rename_i s hs
        split at hx
        · rename_i t
          split at hx
          · rename_i k sz i off hc
            split at hx
            · rename_i sz' es hk
              replace hx := sB_some hx; obtain ⟨h1, hx⟩ := hx
              have := beq_nat h1; subst this
              replace hx := rdN_some hx; obtain ⟨z, hz, hx⟩ := hx
              obtain ⟨c, es2, hcc, hco, hx⟩ := hdE_some hx
              have hT := ty_of (hE.ty _ _ hti)
              have hag : aggKd ti.kd = false := by rw [hkd]; rfl
              have hr := h.slot t hc
              generalize a.eval (.tmp t) = v at hr ⊢
              cases hr with
              | eref _ _ _ _ blk len cap hb =>
                obtain ⟨hd0, g1, e0, xs, g2⟩ := h.objs k _ hk
                have g1' := g1
                rw [hb] at g1; injection g1 with g1; subst g1
                obtain ⟨cap', q1, _, _, _, q5⟩ := g2.cells (blk := blk) rfl
                obtain ⟨u, r1, r2⟩ := g2.cell i z off c hz hcc
                obtain ⟨ω', f1, f2⟩ := h.focus hk hz hcc hco ⟨_, e0, xs, g1', g2, r1⟩ hd
                exact ⟨u, w, by simp [Instr.loadAt, Instr.sureAddr, run_loadVarT hT hag blk (i * sz' + off) u (q5 _ _ u r1).1], _, _, _, f1, f2, hx⟩
            · exact absurd hx (by simp)
          · exact absurd hx (by simp)
        · exact absurd hx (by simp)
    · exact absurd hx (by simp)
  · exact absurd hx (by simp)

/-- An entry of a map is opened. -/
theorem Rel.focusM (h : Rel γ ω w nt st a) {k s j : Nat} {m : List (MKey × MV)} {es2 : List (List MV)} (hk : st.B[k]? = some (some (.map true m []))) {u : Value}
    (hu : ∃ blk es clock, γ[k]? = some (.map (some blk)) ∧ MapR γ ω w (.ob k) [] true m blk es clock ∧ ((∃ x e, m[j]? = some x ∧ es[j]? = some e ∧ e.val = u ∧ (x.2 = .hold false s (.list es2) ∨ (x.2 = .nil ∧ es2 = []))) ∨ (m.length ≤ j ∧ u = .slice none 0 0 ∧ es2 = []))) {d : Nat} (hd : d < nt) :
    ∃ ω', Chg NotOuter γ ω w (γ ++ [u]) ω' w ∧ Rel (γ ++ [u]) ω' w nt ((⟨st.v, st.B.set k (some (.map true m [(j, st.B.length)]))⟩ : St).newO (some d) (.row false s es2 [])) (a.put (some d) u) := by
  obtain ⟨blk, es, clock, g1, g2, hux⟩ := hu
  let k2 := st.B.length
  have hkl : k < k2 := (List.getElem?_eq_some_iff.1 hk).1
  let bn : Nat := ((es[j]?).map (·.born)).getD clock
  let ω' : Own := fun b => match ω b with
    | some (.ob q ((j', i') :: p)) => if q = k ∧ j' = bn ∧ i' = 0 then some (.ob k2 p) else some (.ob q ((j', i') :: p))
    | x => x
  have hn : ∀ b, ω b = none → ω' b = none := fun b hb => by simp [ω', hb]
  have hin : ∀ p b, ω b = some (.ob k ((bn, 0) :: p)) → ω' b = some (.ob k2 p) := fun p b hb => by simp [ω', hb]
  have hroot : ∀ q b, ω b = some (.ob q []) → ω' b = some (.ob q []) := fun q b hb => by simp [ω', hb]
  have hoth : ∀ q j' i' p b, ¬ (q = k ∧ j' = bn ∧ i' = 0) → ω b = some (.ob q ((j', i') :: p)) → ω' b = some (.ob q ((j', i') :: p)) := fun q j' i' p b hq hb => by simp only [ω', hb]; rw [if_neg hq]
  have hq : ∀ q p b, q ≠ k → ω b = some (.ob q p) → ω' b = some (.ob q p) := fun q p b hne hb => by
    cases p with
    | nil => exact hroot q b hb
    | cons z p => exact hoth q z.1 z.2 p b (fun e => hne e.1) hb
  have hc0 : Chg (fun o => ∃ p, o = .ob k p) γ ω w (γ ++ [u]) ω' w := by
    refine ⟨rfl, rfl, rfl, Nat.le_refl _, pre_app γ u, fun b _ h0 => ⟨rfl, hn b h0⟩, fun b o _ h0 hno => ⟨rfl, ?_⟩⟩
    cases o with
    | ob q p => exact hq q p b (fun e => hno ⟨p, by rw [e]⟩) h0
    | outer => simp [ω', h0]
  have hlt : ∀ b, w.heap.size ≤ b → ω' b = none := fun b hb => hn b (h.lt b hb)
  have hk2 : (γ ++ [u])[k2]? = some u := by
    show (γ ++ [u])[st.B.length]? = some u
    rw [← h.len]; simp
  have hrow : (∃ e xs, RowR (γ ++ [u]) ω' w (.ob k2) [] false s es2 u e xs) ∧ u.oneCell' = true ∧ u.cells = #[u] := by
    rcases hux with ⟨x, e, h1, h2, h3, h4⟩ | ⟨h1, rfl, rfl⟩
    · have hv := g2.val j x e h1 h2
      simp only [lkK] at hv
      have hb : bn = e.born := by simp [bn, h2]
      rw [h3] at hv
      exact opened (N' := .ob k2) h4 hv.2 hc0.keeps (fun p b _ h0 => hin p b (by rw [hb]; exact h0))
    · exact ⟨⟨0, [], .of (World.ownsRow_nil w 0 0 s) (.nil _ _) (fun b hb => by simp [Value.ownBlock] at hb)⟩, rfl, rfl⟩
  obtain ⟨hrow, o1, o2⟩ := hrow
  have hR : Rel (γ ++ [u]) ω' w nt ⟨st.v, st.B.set k (some (.map true m [(j, k2)])) ++ [some (.row false s es2 [])]⟩ a := by
    refine h.turn hc0 hlt (by simp [h.len]) (fun q o hqo => ?_)
    rcases Nat.lt_or_ge q (st.B.set k (some (.map true m [(j, k2)]))).length with hq1 | hq1
    · rw [List.getElem?_append_left hq1] at hqo
      rcases set_some hqo with ⟨rfl, rfl⟩ | ⟨r1, r2⟩
      · refine .inr ⟨_, pre_app γ u _ _ g1, blk, es, clock, rfl, hroot _ _ g2.own, g2.lt, g2.heap, g2.len, g2.key, fun i x e hx he => ?_, g2.born, g2.nodup, g2.same⟩
        have hv := g2.val i x e hx he
        simp only [lkK] at hv ⊢
        by_cases hji : j = i
        · subst hji
          rw [if_pos rfl]
          rcases hux with ⟨x', e', h1, h2, h3, h4⟩ | ⟨h1, _, _⟩
          · rw [he] at h2; injection h2 with h2; subst h2
            rw [h3]; exact hk2
          · have := (List.getElem?_eq_some_iff.1 hx).1; omega
        · rw [if_neg hji]
          refine ⟨hv.1, hv.2.moved hc0.keeps (fun p b _ h0 => ⟨rfl, hoth _ _ _ p b (fun e3 => ?_) h0⟩)⟩
          have hb := e3.2.1
          rcases Nat.lt_or_ge j es.length with hj | hj
          · have hje : es[j]? = some es[j] := List.getElem?_eq_getElem hj
            have hbn : bn = es[j].born := by simp [bn, hje]
            have h1 : (es.map (·.born))[i]? = some e.born := by simp [he]
            have h2 : (es.map (·.born))[j]? = some e.born := by rw [List.getElem?_map, hje]; simp only [Option.map_some]; rw [← hbn, hb]
            exact hji (nodup_ix g2.nodup h2 h1)
          · have hbn : bn = clock := by simp [bn, List.getElem?_eq_none hj]
            have := g2.born e (List.mem_of_getElem? he)
            omega
      · exact .inl ⟨r1, fun p ⟨p', e⟩ => by injection e with e; exact r2 e⟩
    · rw [List.getElem?_append_right hq1] at hqo
      have hqk : q = k2 := by
        have := (List.getElem?_eq_some_iff.1 hqo).1
        simp at this hq1; show q = st.B.length; omega
      subst hqk
      simp [k2] at hqo; subst hqo
      exact .inr ⟨u, hk2, hrow⟩
  refine ⟨ω', hc0.mono (fun o ⟨p, e⟩ => by rw [e]; simp), ?_⟩
  have := hR.put (d := d) hd (.ref k2 u hk2 o1 o2)
  simp only [St.newO, List.length_set]
  exact this

theorem lkd_ok (hE : E.Ok P) (h : Rel γ ω w nt st a) {d : Nat} (hd : d < nt) {T : TypeId} {m k : Operand} {ok : Bool} (hx : lkdF E st d T m k ok K = some x) : Does P nt γ ω w a (some d) (Instr.lookup T (a.eval m) (a.eval k) ok) K x := by
  unfold lkdF at hx
  split at hx
  · exact absurd hx (by simp)
  split at hx
  · rename_i kT eT hkd
    obtain ⟨dd, hd0, hkd'⟩ := und_of_kd (kdE_ok hE hkd (by simp)) (by simp)
    have := tk_map hkd'; subst this
    split at hx
    · rename_i ti hti
      split at hx
      · rename_i e hkdi hzero
        split at hx
        · exact absurd hx (by simp)
        · rename_i s hs
          split at hx
          · rename_i q hq
            split at hx
            · rename_i mm hk
              replace hx := sO_some hx; obtain ⟨kv, hkv, hx⟩ := hx
              replace hx := sO_some hx; obtain ⟨key, hkey, hx⟩ := hx
              replace hx := gK_some hx; obtain ⟨h2, hx⟩ := hx
              obtain ⟨es2, hes, hx⟩ := hdK_some hx
              have hkk : kdE E kT ≠ .other := by intro e; rw [e] at hkey; simp [keyT] at hkey
              rw [← kdE_ok hE rfl hkk] at hkey
              have hkv' := keyT_rep hkey (h.val hkv)
              have hkk2 : kdOf P kT ≠ .other := by intro e; rw [e] at hkey; simp [keyT] at hkey
              obtain ⟨d2, hd2, hkd2⟩ := und_of_kd rfl hkk2
              have hm := h.shv hq
              obtain ⟨hdv, g1, blk, es, clock, g2, g3⟩ := h.objs q _ hk
              have hmv : a.eval m = .map (some blk) := by
                generalize a.eval m = u at hm ⊢
                cases hm with
                | ref _ _ hb _ _ => rw [g1] at hb; injection hb with hb; rw [← hb, g2]
              subst g2
              have hall := kOk_all h2 g3.same
              have hget : w.heap[blk]? = some (.map es.toArray clock) := g3.heap
              obtain ⟨z, hz1, hz2⟩ := zeroM_rep (γ := γ) (ω := ω) (w := w) (ty_of (hE.ty _ _ hti))
              have hz3 : z = .slice none 0 0 := by
                unfold zeroM at hz2
                rw [hkdi, hzero] at hz2
                simp only [aggKd] at hz2
                cases hz2; rfl
              subst hz3
              rcases run_findKey (w := w) hd2 hkd2 hkey g3.len g3.key hall with ⟨f1, f2⟩ | ⟨j, v0, e, f1, f2, f3, f4⟩
              · have hmg : mget mm key = none := by simp [mget, f1]
                have hmx : mfix mm key = mm.length := by simp [mfix, f1]
                have he0 : es2 = [] := by
                  rcases hes with ⟨c, hc, _⟩ | ⟨_, h4⟩
                  · rw [hmg] at hc; simp at hc
                  · exact h4
                obtain ⟨ω', r1, r2⟩ := h.focusM (s := s + 1) (j := mfix mm key) (es2 := es2) hk (u := .slice none 0 0) ⟨blk, es, clock, g1, g3, .inr ⟨by rw [hmx]; exact Nat.le_refl _, rfl, he0⟩⟩ hd
                refine ⟨.slice none 0 0, w, ?_, _, _, _, r1, r2, hx⟩
                rw [hmv, hkv']
                simp [Instr.lookup, run_underlying hd0, run_checkKey hd2 hkd2 hkey, getObj, Sem.run, hget, f2, hz1]
              · have hmg : mget mm key = some v0 := by simp [mget, f1]
                have hmx : mfix mm key = j := by simp [mfix, f1]
                obtain ⟨c, hc, hcc⟩ : ∃ c, some v0 = some c ∧ (c = .hold false (s + 1) (.list es2) ∨ (c = .nil ∧ es2 = [])) := by
                  rcases hes with ⟨c, hc, hcc⟩ | ⟨h4, _⟩
                  · rw [hmg] at hc; exact ⟨c, hc, hcc⟩
                  · rw [hmg] at h4; simp at h4
                injection hc with hc; subst hc
                obtain ⟨ω', r1, r2⟩ := h.focusM (s := s + 1) (j := mfix mm key) (es2 := es2) hk (u := e.val) ⟨blk, es, clock, g1, g3, .inl ⟨(key, v0), e, by rw [hmx]; exact f2, by rw [hmx]; exact f3, rfl, hcc⟩⟩ hd
                refine ⟨e.val, w, ?_, _, _, _, r1, r2, hx⟩
                rw [hmv, hkv']
                simp [Instr.lookup, run_underlying hd0, run_checkKey hd2 hkd2 hkey, getObj, Sem.run, hget, f4]
            · exact absurd hx (by simp)
          · exact absurd hx (by simp)
      · exact absurd hx (by simp)
    · exact absurd hx (by simp)
  · exact absurd hx (by simp)

theorem mud_ok (hE : E.Ok P) (h : Rel γ ω w nt st a) {T : TypeId} {m k v : Operand} (hx : mudF E st T m k v K = some x) :
    DoesU P nt γ ω w a (Instr.mapUpdate T (a.eval m) (a.eval k) (a.eval v)) K x := by
  unfold mudF at hx
  split at hx
  · rename_i kT eT hkd
    obtain ⟨d, hd, hkd'⟩ := und_of_kd (kdE_ok hE hkd (by simp)) (by simp)
    have := tk_map hkd'; subst this
    split at hx
    · rename_i q hq
      split at hx
      · rename_i mm foc hk
        replace hx := sO_some hx; obtain ⟨kv, hkv, hx⟩ := hx
        replace hx := sO_some hx; obtain ⟨key, hkey, hx⟩ := hx
        have hkk : kdE E kT ≠ .other := by intro e; rw [e] at hkey; simp [keyT] at hkey
        rw [← kdE_ok hE rfl hkk] at hkey
        have hkv' := keyT_rep hkey (h.val hkv)
        have hm := h.shv hq
        have hkk2 : kdOf P kT ≠ .other := by intro e; rw [e] at hkey; simp [keyT] at hkey
        obtain ⟨d2, hd2, hkd2⟩ := und_of_kd rfl hkk2
        split at hx
        · rename_i k2 hk2v
          split at hx
          · rename_i dp2 sz2 es2 hk2
            replace hx := sB_some hx; obtain ⟨h1, hx⟩ := hx
            have hne : q ≠ k2 := by intro e; subst e; simp at h1
            obtain ⟨h2, hfo, hx⟩ : kOkM mm key = true ∧ (∀ i, i ≠ mfix mm key → lkK foc i = none) ∧ K ⟨st.v, (st.B.set k2 none).set q (some (.map true (mset mm key (.hold dp2 sz2 (.list es2))) []))⟩ = some x := by
              split at hx
              · obtain ⟨h2, hx⟩ := gK_some hx
                exact ⟨h2, fun _ _ => rfl, hx⟩
              · rename_i j _
                obtain ⟨hj, hx⟩ := gd_some hx
                obtain ⟨h2, hx⟩ := gK_some hx
                exact ⟨h2, fun i hi => by simp only [lkK]; rw [if_neg (fun e => hi (by rw [← e, hj]))], hx⟩
              · exact absurd hx (by simp)
            obtain ⟨hdv, g1, blk, es, clock, g2, g3⟩ := h.objs q _ hk
            obtain ⟨hd2v, q1, e2, xs2, q2⟩ := h.objs k2 _ hk2
            have hmv : a.eval m = .map (some blk) := by
              generalize a.eval m = u at hm ⊢
              cases hm with
              | ref _ _ hb _ _ => rw [g1] at hb; injection hb with hb; rw [← hb, g2]
            have hvv : a.eval v = hd2v := by
              have hv := h.shv hk2v
              generalize a.eval v = u at hv ⊢
              cases hv with
              | ref _ _ hb _ _ => rw [q1] at hb; injection hb with hb; exact hb.symm
            subst g2
            have hall := kOk_all h2 g3.same
            have hget : w.heap[blk]? = some (.map es.toArray clock) := g3.heap
            have hblk2 : ∀ p b, b < w.heap.size → ω b = some (.ob k2 p) → b ≠ blk := fun p b _ h0 e => by subst e; rw [g3.own] at h0; injection h0 with h0; injection h0 with h0; exact hne h0
            have hblkq : ∀ z p b, b < w.heap.size → ω b = some (.ob q (z :: p)) → b ≠ blk := fun z p b _ h0 e => by subst e; rw [g3.own] at h0; injection h0 with h0; injection h0 with _ h0; simp at h0
            -- what the new entry's number is; the memory behind
            have main : ∀ (bn : Nat) (o : Obj), (∀ (h' : World), h' = { w with heap := w.heap.setIfInBounds blk o } → ∀ (ω' : Own), (∀ p b, ω b = some (.ob k2 p) → ω' b = some (.ob q ((bn, 0) :: p))) → (∀ r p b, r ≠ k2 → ω b = some (.ob r p) → ω' b = some (.ob r p)) → Keeps γ ω w γ ω' h' →
                h'.heap[blk]? = some o → ∃ es' clock', MapR γ ω' h' (.ob q) [] true (mset mm key (.hold dp2 sz2 (.list es2))) blk es' clock') →
                (Instr.mapUpdate T (a.eval m) (a.eval k) (a.eval v)).run P w = .ok () { w with heap := w.heap.setIfInBounds blk o } →
                DoesU P nt γ ω w a (Instr.mapUpdate T (a.eval m) (a.eval k) (a.eval v)) K x := by
              intro bn o hmap hrun
              let ω' : Own := fun b => match ω b with
                | some (.ob r p) => if r = k2 then some (.ob q ((bn, 0) :: p)) else some (.ob r p)
                | x => x
              have hn : ∀ b, ω b = none → ω' b = none := fun b hb => by simp [ω', hb]
              have hk2m : ∀ p b, ω b = some (.ob k2 p) → ω' b = some (.ob q ((bn, 0) :: p)) := fun p b hb => by simp [ω', hb]
              have hoth : ∀ r p b, r ≠ k2 → ω b = some (.ob r p) → ω' b = some (.ob r p) := fun r p b hr hb => by simp [ω', hb, hr]
              have hheap : ∀ b, b ≠ blk → ({ w with heap := w.heap.setIfInBounds blk o } : World).heap[b]? = w.heap[b]? := fun b hb => by
                simp [Array.getElem?_setIfInBounds, Ne.symm hb]
              have hc : Chg (fun o => ∃ r p, (r = q ∨ r = k2) ∧ o = .ob r p) γ ω w γ ω' { w with heap := w.heap.setIfInBounds blk o } := by
                refine ⟨rfl, rfl, rfl, by simp, fun _ _ h => h, fun b hb h0 => ⟨hheap b (fun e => by subst e; rw [g3.own] at h0; simp at h0), hn b h0⟩, fun b o' hb h0 hno => ⟨hheap b (fun e => by subst e; rw [g3.own] at h0; injection h0 with h0; exact hno ⟨q, [], .inl rfl, h0.symm⟩), ?_⟩⟩
                cases o' with
                | ob r p => exact hoth r p b (fun e => hno ⟨r, p, .inr e, rfl⟩) h0
                | outer => simp [ω', h0]
              have hlt : ∀ b, ({ w with heap := w.heap.setIfInBounds blk o } : World).heap.size ≤ b → ω' b = none := fun b hb => hn b (h.lt b (by simpa using hb))
              obtain ⟨es', clock', hM⟩ := hmap _ rfl ω' hk2m hoth hc.keeps (by simp [g3.lt])
              refine ⟨_, hrun, γ, ω', _, hc.mono (fun o ⟨r, p, _, e⟩ => by rw [e]; simp), h.turn hc hlt (by simp [h.len]) (fun r o' hr => ?_), hx⟩
              rcases set_some hr with ⟨rfl, rfl⟩ | ⟨r1, r2⟩
              · exact .inr ⟨_, g1, blk, es', clock', rfl, hM⟩
              · obtain ⟨r3, r4⟩ := set_none r1
                refine .inl ⟨r3, fun p ⟨r', p', h5, h6⟩ => ?_⟩
                injection h6 with h6
                rcases h5 with h5 | h5
                · exact r2 (h6.trans h5)
                · exact r4 (h6.trans h5)
            rcases run_findKey (w := w) hd2 hkd2 hkey g3.len g3.key hall with ⟨f1, f2⟩ | ⟨j, v0, e, f1, f2, f3, f4⟩
            · -- a new key
              have hms : mset mm key (.hold dp2 sz2 (.list es2)) = mm ++ [(key, .hold dp2 sz2 (.list es2))] := by
                rcases mset_spec (m := mm) (k := key) (v := .hold dp2 sz2 (.list es2)) with ⟨_, h⟩ | ⟨j, v0, h, _⟩
                · exact h
                · rw [f1] at h; simp at h
              have hmx : mfix mm key = mm.length := by simp [mfix, f1]
              refine main clock (.map (es.toArray.push { key := key.val, val := a.eval v, born := clock }) (clock + 1)) (fun h' hh' ω' w1 w2 hks hnew => ?_) ?_
              · refine ⟨es ++ [{ key := key.val, val := a.eval v, born := clock }], clock + 1, w2 _ _ _ hne g3.own, by rw [hh']; simpa using g3.lt, by rw [hnew]; simp, by rw [hms]; simp [g3.len], ?_, ?_, ?_, ?_, ?_⟩
                · intro i x e hx he
                  rw [hms] at hx
                  rcases Nat.lt_or_ge i mm.length with hi | hi
                  · rw [List.getElem?_append_left hi] at hx
                    rw [List.getElem?_append_left (by rw [g3.len]; exact hi)] at he
                    exact g3.key i x e hx he
                  · rw [List.getElem?_append_right hi] at hx
                    rw [List.getElem?_append_right (by rw [g3.len]; exact hi), g3.len] at he
                    cases hz : i - mm.length with
                    | zero => rw [hz] at hx he; simp at hx he; subst hx; subst he; rfl
                    | succ n => rw [hz] at hx; simp at hx
                · intro i x e hx he
                  simp only [lkK]
                  rw [hms] at hx
                  rcases Nat.lt_or_ge i mm.length with hi | hi
                  · rw [List.getElem?_append_left hi] at hx
                    rw [List.getElem?_append_left (by rw [g3.len]; exact hi)] at he
                    have := g3.val i x e hx he
                    rw [hfo i (by rw [hmx]; omega)] at this
                    exact ⟨this.1, this.2.moved hks (fun p b hb h0 => ⟨by rw [hh']; simp [Array.getElem?_setIfInBounds, Ne.symm (hblkq _ _ b hb h0)], w2 _ _ _ hne h0⟩)⟩
                  · rw [List.getElem?_append_right hi] at hx
                    rw [List.getElem?_append_right (by rw [g3.len]; exact hi), g3.len] at he
                    cases hz : i - mm.length with
                    | zero =>
                      rw [hz] at hx he; simp at hx he; subst hx; subst he
                      refine ⟨fun e => by simp at e, ?_⟩
                      show CellT γ ω' h' _ _ (a.eval v)
                      rw [hvv]
                      exact q2.toCell.moved hks (fun p b hb h0 => ⟨by rw [hh']; simp [Array.getElem?_setIfInBounds, Ne.symm (hblk2 _ b hb h0)], w1 p b h0⟩)
                    | succ n => rw [hz] at hx; simp at hx
                · intro e he
                  rcases List.mem_append.1 he with he | he
                  · have := g3.born e he; omega
                  · simp at he; subst he; simp
                · rw [List.map_append, List.nodup_append]
                  refine ⟨g3.nodup, by simp, ?_⟩
                  intro b hb c hc
                  simp at hc
                  subst hc
                  obtain ⟨e, he, rfl⟩ := List.mem_map.1 hb
                  have := g3.born e he; omega
                · rw [hms]
                  intro x hx y' hy'
                  have hxk : ∀ x ∈ mm ++ [(key, .hold dp2 sz2 (.list es2))], sameK x.1 key = true := by
                    intro x hx
                    rcases List.mem_append.1 hx with hx | hx
                    · exact hall x hx
                    · simp at hx; subst hx; exact sameK_self key
                  exact sameK_trans (sameK_symm (hxk x hx)) (sameK_symm (hxk y' hy'))
              · rw [hmv, hkv']
                simp [Instr.mapUpdate, run_underlying hd, getObj, Sem.run, hget, run_checkKey hd2 hkd2 hkey, f2, setObj]
            · -- a key that is there
              have hms : mset mm key (.hold dp2 sz2 (.list es2)) = mm.set j (key, .hold dp2 sz2 (.list es2)) := by
                rcases mset_spec (m := mm) (k := key) (v := .hold dp2 sz2 (.list es2)) with ⟨h, _⟩ | ⟨j', v0', h, _, h3⟩
                · rw [f1] at h; simp at h
                · rw [f1] at h; injection h with h; injection h with h _; subst h; exact h3
              have hmx : mfix mm key = j := by simp [mfix, f1]
              have hek : e.key = key.val := g3.key j _ e f2 f3
              have hjl : j < es.length := (List.getElem?_eq_some_iff.1 f3).1
              have hej : es[j] = e := (List.getElem?_eq_some_iff.1 f3).2
              have hmod : (es.toArray.modify j fun e => { e with key := key.val, val := a.eval v }) = (es.set j { e with key := key.val, val := a.eval v }).toArray := by
                apply Array.ext'
                simp only [Array.toList_modify]
                apply List.ext_getElem?
                intro i
                rw [List.getElem?_modify, List.getElem?_set]
                by_cases hji : j = i
                · subst hji; simp [hej, hjl]
                · simp [hji]
              refine main e.born (.map (es.toArray.modify j fun e => { e with key := key.val, val := a.eval v }) clock) (fun h' hh' ω' w1 w2 hks hnew => ?_) ?_
              · have hbs : (es.set j { e with key := key.val, val := a.eval v }).map (·.born) = es.map (·.born) := by
                  rw [List.map_set]
                  apply List.ext_getElem?
                  intro i
                  rw [List.getElem?_set]
                  by_cases hji : j = i
                  · subst hji; simp [hej, hjl]
                  · rw [if_neg hji]
                have hget2 : ∀ (i : Nat) (x : MKey × MV) (e' : MapEntry), (mm.set j (key, .hold dp2 sz2 (.list es2)))[i]? = some x → (es.set j { e with key := key.val, val := a.eval v })[i]? = some e' → (i = j ∧ x = (key, .hold dp2 sz2 (.list es2)) ∧ e' = { e with key := key.val, val := a.eval v }) ∨ (i ≠ j ∧ mm[i]? = some x ∧ es[i]? = some e') := by
                  intro i x e' hx he
                  rw [List.getElem?_set] at hx he
                  by_cases hji : j = i
                  · subst hji
                    have hjm : j < mm.length := (List.getElem?_eq_some_iff.1 f2).1
                    simp [hjl] at he
                    simp [hjm] at hx
                    exact .inl ⟨rfl, hx.symm, he.symm⟩
                  · rw [if_neg hji] at hx he; exact .inr ⟨fun e => hji e.symm, hx, he⟩
                refine ⟨es.set j { e with key := key.val, val := a.eval v }, clock, w2 _ _ _ hne g3.own, by rw [hh']; simpa using g3.lt, by rw [hnew, hmod], by rw [hms]; simp [g3.len], ?_, ?_, ?_, by rw [hbs]; exact g3.nodup, ?_⟩
                · intro i x e' hx he
                  rw [hms] at hx
                  rcases hget2 i x e' hx he with ⟨_, rfl, rfl⟩ | ⟨_, r1, r2⟩
                  · rfl
                  · exact g3.key i x e' r1 r2
                · intro i x e' hx he
                  simp only [lkK]
                  rw [hms] at hx
                  rcases hget2 i x e' hx he with ⟨_, rfl, rfl⟩ | ⟨hij, r1, r2⟩
                  · refine ⟨fun e => by simp at e, ?_⟩
                    show CellT γ ω' h' _ _ (a.eval v)
                    rw [hvv]
                    exact q2.toCell.moved hks (fun p b hb h0 => ⟨by rw [hh']; simp [Array.getElem?_setIfInBounds, Ne.symm (hblk2 _ b hb h0)], w1 p b h0⟩)
                  · have := g3.val i x e' r1 r2
                    rw [hfo i (by rw [hmx]; exact hij)] at this
                    exact ⟨this.1, this.2.moved hks (fun p b hb h0 => ⟨by rw [hh']; simp [Array.getElem?_setIfInBounds, Ne.symm (hblkq _ _ b hb h0)], w2 _ _ _ hne h0⟩)⟩
                · intro e' he
                  have : e'.born ∈ (es.set j { e with key := key.val, val := a.eval v }).map (·.born) := List.mem_map_of_mem he
                  rw [hbs] at this
                  obtain ⟨e2, h3, h4⟩ := List.mem_map.1 this
                  rw [← h4]; exact g3.born e2 h3
                · rw [hms]
                  intro x hx y' hy'
                  have hxk : ∀ x ∈ mm.set j (key, .hold dp2 sz2 (.list es2)), sameK x.1 key = true := by
                    intro x hx
                    rcases List.mem_or_eq_of_mem_set hx with hx | hx
                    · exact hall x hx
                    · subst hx; exact sameK_self key
                  exact sameK_trans (sameK_symm (hxk x hx)) (sameK_symm (hxk y' hy'))
              · rw [hmv, hkv']
                have hkk3 : (Option.map (fun x : MapEntry => x.key) es[j]?).getD key.val = key.val := by simp [f3, hek]
                simp [Instr.mapUpdate, run_underlying hd, getObj, Sem.run, hget, run_checkKey hd2 hkd2 hkey, f4, setObj, hkk3, run_keyStays hkey]
          · exact absurd hx (by simp)
        · exact absurd hx (by simp)
      · exact absurd hx (by simp)
    · exact absurd hx (by simp)
  · exact absurd hx (by simp)
end
end Go.Pv
end
