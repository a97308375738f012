/- The library of this work, H texts, part K4: nil becomes a row of one's own; a row of one's own is cut. -/
import Derived.Test.YtlfbfhgoehndpaaGreatDoorHK
set_option linter.unusedVariables false
set_option linter.unusedSimpArgs false
noncomputable section
namespace Go.Pv

/-- A place that holds nil from now on holds an empty row of one's own: a slot, or a cell of the variable that a slot leads to. Of width 0: a row that a cell of the object leads to gets a new number. -/
def St.own1 (st : St) (x : Nat × Nat × Nat) : St := match x.2.2 with
  | 0 => (match st.B[x.1]? with
    | some (some (.box cs)) => (match cs[x.2.1]? with
      | some (.ref j) => (match st.B[j]? with
        | some (some (.row dp sz es [])) => ⟨st.v, (st.B.set j none).set x.1 (some (.box (cs.set x.2.1 (.ref st.B.length)))) ++ [some (.row dp sz es [])]⟩
        | _ => st)
      | _ => st)
    | _ => st)
  | sz + 1 => (match lk st.v x.1 with
    | .nil => ⟨pt st.v x.1 (.ref st.B.length), st.B ++ [some (.row false (sz + 1) [] [])]⟩
    | .ptr k 0 => (match st.B[k]? with
      | some (some (.box cs)) => (match cs[x.2.1]? with
        | some .nil => ⟨st.v, st.B.set k (some (.box (cs.set x.2.1 (.ref st.B.length)))) ++ [some (.row false (sz + 1) [] [])]⟩
        | _ => st)
      | _ => st)
    | _ => st)
def St.owns : List (Nat × Nat × Nat) → St → St
  | [], st => st
  | x :: r, st => St.owns r (st.own1 x)

section
variable {α : Type} {E : Env} {P : Program} {x : α} {γ γ' : List Value} {ω ω' : Own} {w w' : World} {nt : Nat} {st : St} {a : Act} {K : St → Option α}

theorem Rel.own0 (h : Rel γ ω w nt st a) {k i j : Nat} {cs : List MV} (hk : st.B[k]? = some (some (.box cs))) (hi : cs[i]? = some (.ref j)) {dp : Bool} {sz : Nat} {es : List (List MV)} (hj : st.B[j]? = some (some (.row dp sz es []))) :
    ∃ γ' ω', Chg NotOuter γ ω w γ' ω' w ∧ Rel γ' ω' w nt ⟨st.v, (st.B.set j none).set k (some (.box (cs.set i (.ref st.B.length)))) ++ [some (.row dp sz es [])]⟩ a := by
  obtain ⟨hd, q1, e, xs, q2⟩ := h.objs j _ hj
  have hjk : j ≠ k := fun e => by rw [e, hk] at hj; simp at hj
  let ω' : Own := fun b => match ω b with
    | some (.ob j' p) => if j' = j then some (.ob γ.length p) else some (.ob j' p)
    | x => x
  have hn : ∀ b, ω b = none → ω' b = none := fun b hb => by simp [ω', hb]
  have hN : ∀ p b, ω b = some (.ob j p) → ω' b = some (.ob γ.length p) := fun p b hb => by simp [ω', hb]
  have hc : Chg (fun o => ∃ p, o = .ob j p) γ ω w (γ ++ [hd]) ω' w := by
    refine ⟨rfl, rfl, rfl, Nat.le_refl _, pre_app γ _, fun b _ h0 => ⟨rfl, hn b h0⟩, fun b o _ h0 hno => ⟨rfl, ?_⟩⟩
    cases o with
    | ob j' p =>
      simp only [ω', h0]
      rw [if_neg (fun e => hno ⟨p, by rw [e]⟩)]
    | outer => simp only [ω', h0]
  have hmv := q2.moved (N' := .ob γ.length) hc.keeps (fun p b hb h0 => ⟨rfl, hN p b h0⟩)
  obtain ⟨A, cap, hA⟩ := row_slice q2.own
  have hf := h.renew (ks := [j]) (fun o ⟨p, hp⟩ => ⟨j, p, by simp, hp⟩) hc (fun b hb => hn b (h.lt b hb)) (B := st.B.set j none) (by simp) (fun j' o hj' => by
    rw [List.getElem?_set] at hj'
    by_cases e : j = j'
    · subst e; split at hj'
      · split at hj' <;> simp at hj'
      · rename_i hne; exact absurd rfl hne
    · rw [if_neg e] at hj'
      exact ⟨hj', by simp; exact fun h => e h.symm⟩) (o := .row dp sz es []) ⟨e, _, hmv⟩ (by rw [hA]; rfl) (by rw [hA]; rfl) (d := none) (fun t ht => nomatch ht)
  have hget : (γ ++ [hd])[st.B.length]? = some hd := by rw [← h.len]; simp
  have hkl : k < st.B.length := (List.getElem?_eq_some_iff.1 hk).1
  refine ⟨_, ω', hc.out (fun o ⟨p, hp⟩ => by rw [hp]; simp), ⟨hf.size, hf.defers, hf.lt, hf.gl, by simp [h.len], hf.slots, fun j' o hj' => ?_⟩⟩
  by_cases ek : j' = k
  · subst ek
    rw [List.getElem?_append_left (by simpa using hkl), List.getElem?_set_self (by simpa using hkl)] at hj'
    injection hj' with hj'; injection hj' with hj'; subst hj'
    have hk' : (({ v := st.v, B := st.B.set j none } : St).newO none (.row dp sz es [])).B[j']? = some (some (.box cs)) := by
      show (st.B.set j none ++ _)[j']? = _
      rw [List.getElem?_append_left (by simpa using hkl), List.getElem?_set_ne hjk]; exact hk
    obtain ⟨hd', p1, blk, cur, ty, p2, p3, p4, p5, p6, p7⟩ := hf.objs j' _ hk'
    refine ⟨hd', p1, blk, cur, ty, p2, p3, p4, p5, by simpa using p6, fun i' c hc' => ?_⟩
    by_cases ei : i = i'
    · subst ei
      rw [List.getElem?_set_self (List.getElem?_eq_some_iff.1 hi).1] at hc'
      injection hc' with hc'; subst hc'
      obtain ⟨u, r1, r2, r3⟩ := p7 _ _ hi
      cases r3 with
      | ref _ _ hb h1 h2 =>
        have : u = hd := by
          rw [List.getElem?_append_left (List.getElem?_eq_some_iff.1 q1).1, q1] at hb
          injection hb with hb; exact hb.symm
        subst this
        exact ⟨_, r1, r2, .ref _ _ hget h1 h2⟩
    · rw [List.getElem?_set_ne ei] at hc'
      exact p7 i' c hc'
  · refine hf.objs j' o ?_
    show (st.B.set j none ++ _)[j']? = _
    rcases Nat.lt_or_ge j' st.B.length with hl | hl
    · rw [List.getElem?_append_left (by simpa using hl)]
      rw [List.getElem?_append_left (by simpa using hl), List.getElem?_set_ne (fun h => ek h.symm)] at hj'
      exact hj'
    · rw [List.getElem?_append_right (by simpa using hl)]
      rw [List.getElem?_append_right (by simpa using hl)] at hj'
      simpa using hj'

theorem Rel.own1 (h : Rel γ ω w nt st a) (x : Nat × Nat × Nat) : ∃ γ' ω', Chg NotOuter γ ω w γ' ω' w ∧ Rel γ' ω' w nt (st.own1 x) a := by
  have h0 : ∃ γ' ω', Chg NotOuter γ ω w γ' ω' w ∧ Rel γ' ω' w nt st a := ⟨γ, ω, Chg.refl _ _ _ _, h⟩
  have hc : Chg (fun _ => False) γ ω w (γ ++ [.slice none 0 0]) ω w := ⟨rfl, rfl, rfl, Nat.le_refl _, pre_app γ _, fun _ _ h => ⟨rfl, h⟩, fun _ _ _ h _ => ⟨rfl, h⟩⟩
  unfold St.own1
  split
  · split
    · rename_i cs hk
      split
      · rename_i j hi
        split
        · rename_i dp sz es hj
          exact h.own0 hk hi hj
        · exact h0
      · exact h0
    · exact h0
  · rename_i sz hsz
    have hf : Rel (γ ++ [.slice none 0 0]) ω w nt (st.newO none (.row false (sz + 1) [] [])) (a.put none (.slice none 0 0)) :=
      h.fresh hc h.lt (o := .row false (sz + 1) [] []) ⟨0, [], .of (World.ownsRow_nil w 0 0 (sz + 1)) (.nil _ _) (fun b hb => by simp [Value.ownBlock] at hb)⟩ rfl rfl (d := none) (fun t ht => nomatch ht)
    have hget : (γ ++ [Value.slice none 0 0])[st.B.length]? = some (.slice none 0 0) := by rw [← h.len]; simp
    split
    · rename_i hx
      refine ⟨_, ω, hc.mono (fun _ h => h.elim), ⟨hf.size, hf.defers, hf.lt, hf.gl, hf.len, fun s => ?_, hf.objs⟩⟩
      show Rep _ ω w (lk (pt st.v x.1 (.ref st.B.length)) s) _
      rw [lk_pt]
      split
      · rename_i e
        have hr := h.slots x.1
        rw [hx, e] at hr
        generalize a.tmps.getD s undef = v at hr ⊢
        cases hr
        exact .ref _ _ hget rfl rfl
      · exact hf.slots s
    · rename_i k hx
      split
      · rename_i cs hk
        split
        · rename_i hi
          have hkl : k < st.B.length := (List.getElem?_eq_some_iff.1 hk).1
          refine ⟨_, ω, hc.mono (fun _ h => h.elim), ⟨hf.size, hf.defers, hf.lt, hf.gl, by simp [h.len], hf.slots, fun j o hj => ?_⟩⟩
          by_cases e : j = k
          · subst e
            rw [List.getElem?_append_left (by simpa using hkl), List.getElem?_set_self hkl] at hj
            injection hj with hj; injection hj with hj; subst hj
            have hk' : (st.newO none (.row false (sz + 1) [] [])).B[j]? = some (some (.box cs)) := by
              show (st.B ++ _)[j]? = _
              rw [List.getElem?_append_left hkl]; exact hk
            obtain ⟨hd, q1, blk, cur, ty, q2, q3, q4, q5, q6, q7⟩ := hf.objs j _ hk'
            refine ⟨hd, q1, blk, cur, ty, q2, q3, q4, q5, by simpa using q6, fun i c hc' => ?_⟩
            by_cases ei : x.2.1 = i
            · subst ei
              rw [List.getElem?_set_self (List.getElem?_eq_some_iff.1 hi).1] at hc'
              injection hc' with hc'; subst hc'
              obtain ⟨u, r1, r2, r3⟩ := q7 _ _ hi
              cases r3
              exact ⟨_, r1, r2, .ref _ _ hget rfl rfl⟩
            · rw [List.getElem?_set_ne ei] at hc'
              exact q7 i c hc'
          · refine hf.objs j o ?_
            show (st.B ++ _)[j]? = _
            rcases Nat.lt_or_ge j st.B.length with hl | hl
            · rw [List.getElem?_append_left hl]
              rw [List.getElem?_append_left (by simpa using hl), List.getElem?_set_ne (fun h => e h.symm)] at hj
              exact hj
            · rw [List.getElem?_append_right hl]
              rw [List.getElem?_append_right (by simpa using hl)] at hj
              simpa using hj
        · exact h0
      · exact h0
    · exact h0

theorem Rel.owns : ∀ (l : List (Nat × Nat × Nat)) {γ : List Value} {ω : Own} {st : St}, Rel γ ω w nt st a → ∃ γ' ω', Chg NotOuter γ ω w γ' ω' w ∧ Rel γ' ω' w nt (st.owns l) a
  | [], γ, ω, st, h => ⟨γ, ω, Chg.refl _ _ _ _, h⟩
  | x :: r, γ, ω, st, h => by
    obtain ⟨γ1, ω1, c1, h1⟩ := h.own1 x
    obtain ⟨γ2, ω2, c2, h2⟩ := Rel.owns r h1
    exact ⟨γ2, ω2, c1.trans c2, h2⟩

/-! ### A row is cut -/
def trcF (E : Env) (st : St) (d : Nat) (T : TypeId) (x : Operand) (lo hi : Option Operand) (K : St → Option α) : Option α :=
  match kdE E T with
  | .slice eT => (match szE E eT with
    | 0 => none
    | _ + 1 => (match x with
      | .tmp t => (match lk st.v t with
        | .ref k => (match st.B[k]? with
          | some (some (.row dp sz es [])) => (match lo with
            | none => (match bndOf st es.length hi with
              | some h => gd (0 ≤ h ∧ h ≤ (es.length : Int)) (K ((st.drop k).newO (some d) (.row dp sz (es.take h.toNat) [])))
              | none => none)
            | some _ => none)
          | _ => none)
        | _ => none)
      | _ => none))
  | _ => none

theorem trc_ok (hE : E.Ok P) (h : Rel γ ω w nt st a) {d : Nat} (hdn : d < nt) {T : TypeId} {y : Operand} {lo hi : Option Operand} (hx : trcF E st d T y lo hi K = some x) :
    Does P nt γ ω w a (some d) (Instr.sliceAt T (a.eval y) (lo.map a.eval) (hi.map a.eval) none) K x := by
  unfold trcF at hx
  split at hx
  · rename_i eT hk
    obtain ⟨d1, hd1, hkd1⟩ := und_of_kd (kdE_ok hE hk (by simp)) (by simp)
    have := tk_slice hkd1; subst this
    split at hx
    · exact absurd hx (by simp)
    · rename_i s0 hs0
      have hz : szOf P eT ≠ 0 := by rw [szE_ok hE hs0]; simp
      obtain ⟨tie, htie, hsze⟩ := szOf_ne hz
      split at hx
      · rename_i t
        split at hx
        · rename_i k hlk
          split at hx
          · rename_i dp sz es hB
            split at hx
            · split at hx
              · rename_i u hu
                replace hx := gd_some hx
                obtain ⟨⟨g0, g1⟩, hx⟩ := hx
                obtain ⟨hd, q1, e, xs, q2⟩ := h.objs k _ hB
                have hr := h.slot t hlk
                generalize a.eval (.tmp t) = v at hr ⊢
                have hvh : v = hd := by
                  cases hr with
                  | ref _ _ hb _ _ => rw [q1] at hb; injection hb with hb; exact hb.symm
                subst hvh
                have hlo : bndOf st 0 (none : Option Operand) = some ((0 : Nat) : Int) := rfl
                let ω' : Own := fun b => match ω b with
                  | some (.ob j p) => if j = k then some (.ob γ.length p) else some (.ob j p)
                  | x => x
                have hn : ∀ b, ω b = none → ω' b = none := fun b hb => by simp [ω', hb]
                have hN : ∀ p b, ω b = some (.ob k p) → ω' b = some (.ob γ.length p) := fun p b hb => by simp [ω', hb]
                have hlen : (es.take u.toNat).length = u.toNat := by rw [List.length_take]; omega
                have hmul : u.toNat * sz ≤ es.length * sz := Nat.mul_le_mul_right _ (by omega)
                -- what comes
                have key : ∃ v', (Instr.sliceAt T v ((none : Option Operand).map a.eval) (hi.map a.eval) none).run P w = .ok v' w ∧ w.ownsRow 0 e sz v' u.toNat (xs.take (u.toNat * sz)) ∧ (∀ b, v'.ownBlock = some b → v.ownBlock = some b) ∧ v'.oneCell' = true ∧ v'.cells = #[v'] := by
                  rcases q2.own.2 with ⟨rfl, h0⟩ | ⟨g, cap, cur, rfl, _, hg, hle, hmx, hcs, htk⟩
                  · have hu0 : u = 0 := by omega
                    subst hu0
                    have hb := run_bounds (P := P) h true 0 0 (Nat.le_refl _) hlo (by rw [h0] at hu; exact hu) (Int.le_refl _) (Int.le_refl _) (by simp)
                    simp only [Option.map_none] at hb
                    refine ⟨.slice none 0 0, ?_, ⟨by simp, .inl ⟨rfl, rfl⟩⟩, fun b hb => by simp [Value.ownBlock] at hb, rfl, rfl⟩
                    simp [Instr.sliceAt, Instr.slice, run_underlying hd1, hb, run_sizeT (ty_of htie)]
                  · have hb := run_bounds (P := P) h true es.length cap hle hlo hu (Int.le_refl _) g0 g1
                    simp only [Option.map_none] at hb
                    refine ⟨.slice (some ⟨g, 0, none⟩) u.toNat cap, ?_, ⟨by rw [List.length_take, q2.len]; omega, .inr ⟨g, cap, cur, rfl, Nat.zero_le _, hg, by omega, hmx, hcs, ?_⟩⟩, fun b hb => hb, rfl, rfl⟩
                    · by_cases hc0 : cap = 0
                      · subst hc0; simp [Instr.sliceAt, Instr.slice, run_underlying hd1, hb, run_sizeT (ty_of htie)]
                      · simp [Instr.sliceAt, Instr.slice, run_underlying hd1, hb, run_sizeT (ty_of htie), hc0, Addr.add_lit]
                    · rw [← htk, List.take_take, Nat.min_eq_left hmul]
                obtain ⟨v', hrun, hown, hblk, h1, h2⟩ := key
                have hc : Chg (fun o => ∃ p, o = .ob k p) γ ω w (γ ++ [v']) ω' w := by
                  refine ⟨rfl, rfl, rfl, Nat.le_refl _, pre_app γ _, fun b _ h0 => ⟨rfl, hn b h0⟩, fun b o _ h0 hno => ⟨rfl, ?_⟩⟩
                  cases o with
                  | ob j p =>
                    simp only [ω', h0]
                    rw [if_neg (fun e => hno ⟨p, by rw [e]⟩)]
                  | outer => simp only [ω', h0]
                have hkp : Keeps γ ω w (γ ++ [v']) ω' w := hc.keeps
                have hmv := q2.moved (N' := .ob γ.length) hkp (fun p b hb h0 => ⟨rfl, hN p b h0⟩)
                have hrow : RowR (γ ++ [v']) ω' w (.ob γ.length) [] dp sz (es.take u.toNat) v' e (xs.take (u.toNat * sz)) := by
                  refine ⟨by rw [hlen]; exact hown, by rw [List.length_take, q2.len, hlen]; omega, fun y hy => q2.wid y (List.mem_of_mem_take hy), fun z hz => q2.one z (List.mem_of_mem_take hz), fun j y i c hj hi => ?_, fun b hb => hmv.blk b (hblk b hb)⟩
                  rw [List.getElem?_take] at hj
                  split at hj
                  · rename_i hju
                    obtain ⟨z, z1, z2⟩ := hmv.cell j y i c hj hi
                    refine ⟨z, ?_, z2⟩
                    have hil : i < sz := by
                      have := (List.getElem?_eq_some_iff.1 hi).1
                      rw [q2.wid y (List.mem_of_getElem? hj)] at this; exact this
                    rw [List.getElem?_take, if_pos ?_]
                    · exact z1
                    · have : (j + 1) * sz ≤ u.toNat * sz := Nat.mul_le_mul_right _ hju
                      rw [Nat.add_mul] at this; omega
                  · simp at hj
                refine ⟨v', w, hrun, _, ω', _, hc.out (fun o ⟨p, hp⟩ => by rw [hp]; simp), ?_, hx⟩
                refine h.renew (ks := [k]) (fun o ⟨p, hp⟩ => ⟨k, p, by simp, hp⟩) hc (fun b hb => hn b (h.lt b hb)) (B := st.B.set k none) (by simp) (fun j o hj => ?_) (o := .row dp sz (es.take u.toNat) []) ⟨e, _, hrow⟩ h1 h2 (fun t ht => by injection ht with ht; subst ht; exact hdn)
                rw [List.getElem?_set] at hj
                by_cases e : k = j
                · subst e; split at hj
                  · split at hj <;> simp at hj
                  · rename_i hne; exact absurd rfl hne
                · rw [if_neg e] at hj
                  exact ⟨hj, by simp; exact fun h => e h.symm⟩
              · exact absurd hx (by simp)
            · exact absurd hx (by simp)
          · exact absurd hx (by simp)
        · exact absurd hx (by simp)
      · exact absurd hx (by simp)
  · exact absurd hx (by simp)
end
end Go.Pv
end
