/- The library of this work, H texts, part H: effects on rows and boxes, as functions, and that they are right. -/
import Derived.Test.YtlfbfhgoehndpaaGreatDoorHG
set_option linter.unusedVariables false
set_option linter.unusedSimpArgs false
noncomputable section
namespace Go.Pv

def memN : List Nat → Nat → Bool
  | [], _ => false
  | x :: r, y => match Nat.beq x y with
    | true => true
    | false => memN r y

/-- A new object, and a slot that leads to it. -/
def St.newO (st : St) (d : Option Tmp) (o : Ob) : St := putO ⟨st.v, st.B ++ [some o]⟩ d (.ref st.B.length)
def St.drop (st : St) (k : Nat) : St := ⟨st.v, st.B.set k none⟩

/-- What an effect comes to. -/
def Does {α : Type} (P : Program) (nt : Nat) (γ : List Value) (ω : Own) (w : World) (a : Act) (d : Option Tmp) (s : Sem Value) (K : St → Option α) (x : α) : Prop :=
  ∃ v w', s.run P w = .ok v w' ∧ ∃ γ' ω' st', Chg NotOuter γ ω w γ' ω' w' ∧ Rel γ' ω' w' nt st' (a.put d v) ∧ K st' = some x
def DoesU {α : Type} (P : Program) (nt : Nat) (γ : List Value) (ω : Own) (w : World) (a : Act) (s : Sem Unit) (K : St → Option α) (x : α) : Prop :=
  ∃ w', s.run P w = .ok () w' ∧ ∃ γ' ω' st', Chg NotOuter γ ω w γ' ω' w' ∧ Rel γ' ω' w' nt st' a ∧ K st' = some x

section
variable {α : Type} {E : Env} {P : Program} {x : α} {γ γ' : List Value} {ω ω' : Own} {w w' : World} {nt : Nat} {st : St} {a : Act} {K : St → Option α}

theorem Chg.out {T : Owner → Prop} (h : Chg T γ ω w γ' ω' w') (ht : ∀ o, T o → o ≠ .outer) : Chg NotOuter γ ω w γ' ω' w' := h.mono ht

theorem pre_app (γ : List Value) (v : Value) : ∀ (k : Nat) (u : Value), γ[k]? = some u → (γ ++ [v])[k]? = some u := fun k u h => by
  rw [List.getElem?_append_left (List.getElem?_eq_some_iff.1 h).1]; exact h

/-- An object that was there is gone. -/
theorem Rel.drop (h : Rel γ ω w nt st a) (k : Nat) : Rel γ ω w nt (st.drop k) a := by
  refine ⟨h.size, h.defers, h.lt, h.gl, by simp [St.drop, h.len], h.slots, fun j o hj => ?_⟩
  simp only [St.drop, List.getElem?_set] at hj
  by_cases e : k = j
  · subst e; split at hj
    · split at hj <;> simp at hj
    · rename_i hne; exact absurd rfl hne
  · rw [if_neg e] at hj; exact h.objs j o hj

/-- One object turns into another one, new: k's blocks, and new ones, may have changed. -/
theorem Rel.renew (h : Rel γ ω w nt st a) {T : Owner → Prop} {ks : List Nat} (hT : ∀ o, T o → ∃ k p, k ∈ ks ∧ o = .ob k p) {hd : Value} (hc : Chg T γ ω w (γ ++ [hd]) ω' w') (hlt : ∀ b, w'.heap.size ≤ b → ω' b = none) {B : Bxs} (hB : B.length = st.B.length) (hBk : ∀ (j : Nat) (o : Ob), B[j]? = some (some o) → st.B[j]? = some (some o) ∧ j ∉ ks)
    {o : Ob} (ho : ObR (γ ++ [hd]) ω' w' γ.length o hd) (h1 : hd.oneCell' = true) (h2 : hd.cells = #[hd]) {d : Option Tmp} (hdn : ∀ t, d = some t → t < nt) : Rel (γ ++ [hd]) ω' w' nt (({ v := st.v, B := B } : St).newO d o) (a.put d hd) := by
  have hR : Rel (γ ++ [hd]) ω' w' nt ⟨st.v, B ++ [some o]⟩ a := by
    refine h.turn hc hlt (by simp [h.len, hB]) (fun k o' hk => ?_)
    rcases Nat.lt_or_ge k B.length with hk1 | hk1
    · rw [List.getElem?_append_left hk1] at hk
      obtain ⟨g1, g2⟩ := hBk k o' hk
      exact .inl ⟨g1, fun p ht => by obtain ⟨k', p', q1, q2⟩ := hT _ ht; injection q2 with q2; subst q2; exact g2 q1⟩
    · rw [List.getElem?_append_right hk1] at hk
      have : k = γ.length := by
        have := (List.getElem?_eq_some_iff.1 hk).1
        simp at this; rw [h.len]; omega
      subst this
      rw [h.len, ← hB] at hk; simp at hk; subst hk
      exact .inr ⟨hd, by simp, ho⟩
  refine hR.putO hdn (.ref _ hd ?_ h1 h2)
  show (γ ++ [hd])[B.length]? = some hd
  rw [hB, ← h.len]; simp

theorem slice_one (A : Option Addr) (n c : Nat) : (Value.slice A n c).oneCell' = true ∧ (Value.slice A n c).cells = #[.slice A n c] := ⟨rfl, rfl⟩

/-- Nothing was there before. -/
theorem Rel.fresh (h : Rel γ ω w nt st a) {hd : Value} (hc : Chg (fun _ => False) γ ω w (γ ++ [hd]) ω' w') (hlt : ∀ b, w'.heap.size ≤ b → ω' b = none) {o : Ob} (ho : ObR (γ ++ [hd]) ω' w' γ.length o hd) (h1 : hd.oneCell' = true) (h2 : hd.cells = #[hd]) {d : Option Tmp} (hdn : ∀ t, d = some t → t < nt) :
    Rel (γ ++ [hd]) ω' w' nt (st.newO d o) (a.put d hd) :=
  h.renew (ks := []) (fun _ h => h.elim) hc hlt rfl (fun j o hj => ⟨hj, by simp⟩) ho h1 h2 hdn

/-! ### Assignment -/
def asgF (E : Env) (hd : List Nat) (st : St) (ty : TypeId) (d : Nat) (x : Operand) (K : St → Option α) : Option α :=
  match x with
  | .tmp t => K (st.put d (lk st.v t))
  | .const v =>
    (match isNilC (.const v) with
    | true => (match kdE E ty with
      | .slice e => (match szE E e with
        | 0 => none
        | s + 1 => K (st.newO (some d) (.row (memN hd d) (s + 1) [] [])))
      | _ => none)
    | false => (match mvConst v with
      | some m => K (st.put d m)
      | none => none))
  | .func f => K (st.put d (.fn f []))
  | .global _ => none

theorem asg_ok (h : Rel γ ω w nt st a) {hd : List Nat} {ty : TypeId} {d : Nat} (hdn : d < nt) {y : Operand} (hx : asgF E hd st ty d y K = some x) :
    ∃ γ' ω' st', Chg NotOuter γ ω w γ' ω' w ∧ Rel γ' ω' w nt st' (a.put (some d) (a.eval y)) ∧ K st' = some x := by
  unfold asgF at hx
  split at hx
  · rename_i t
    exact ⟨γ, ω, _, Chg.refl _ _ _ _, h.put hdn (h.slots t), hx⟩
  · rename_i v
    split at hx
    · rename_i hnil
      have hv : v = .slice none 0 0 := by
        unfold isNilC at hnil
        split at hnil
        · rename_i heq; injection heq
        · exact absurd hnil (by simp)
      subst hv
      split at hx
      · rename_i e hk
        split at hx
        · exact absurd hx (by simp)
        · rename_i s hs
          have hc : Chg (fun _ => False) γ ω w (γ ++ [.slice none 0 0]) ω w := ⟨rfl, rfl, rfl, Nat.le_refl _, pre_app γ _, fun _ _ h => ⟨rfl, h⟩, fun _ _ _ h _ => ⟨rfl, h⟩⟩
          refine ⟨_, ω, _, hc.mono (fun _ h => h.elim), h.fresh hc h.lt (o := .row (memN hd d) (s + 1) [] []) ⟨0, [], .of (World.ownsRow_nil w 0 0 (s + 1)) (.nil _ _) (fun b hb => by simp [Value.ownBlock] at hb)⟩ rfl rfl (fun t ht => by injection ht with ht; subst ht; exact hdn), hx⟩
      · exact absurd hx (by simp)
    · split at hx
      · rename_i m hm
        exact ⟨γ, ω, _, Chg.refl _ _ _ _, h.put hdn (const_rep hm), hx⟩
      · exact absurd hx (by simp)
  · exact ⟨γ, ω, _, Chg.refl _ _ _ _, h.put hdn (Rep.fn _ [] [] rfl (by simp)), hx⟩
  · exact absurd hx (by simp)

/-! ### append -/
def noRef (k : Nat) (m : MV) : Bool := match m with
  | .ref j => !Nat.beq j k
  | _ => true

def appF (E : Env) (hd : List Nat) (st : St) (d : Nat) (c : Call) (K : St → Option α) : Option α :=
  match c.args.toList, c.argTypes.toList with
  | [s, x], [T, T'] => match kdE E T, kdE E T' with
    | .slice e, .slice _ => match lkN E.ty e with
      | some ti => sB (Nat.ble ti.bytes 100000) (match ti.size with
        | 0 => none
        | sz0 + 1 => (match shv st s with
          | some .nil => (match memN hd d with
            | false => (match opv st x with
              | some (.list ys) => sB (wid (sz0 + 1) ys) (gL ys.length (K (st.newO (some d) (.row false (sz0 + 1) ys []))))
              | _ => none)
            | true => (match shv st x with
              | some (.ref k2) => (match st.B[k2]? with
                | some (some (.row dp sz2 ys [])) => sB (Nat.beq sz2 (sz0 + 1)) (gL ys.length (K ((st.drop k2).newO (some d) (.row true (sz0 + 1) ys []))))
                | _ => none)
              | _ => none))
          | some (.ref k) => (match st.B[k]? with
            | some (some (.row false sz es [])) => sB (Nat.beq sz (sz0 + 1)) (match opv st x with
              | some (.list ys) => sB (wid (sz0 + 1) ys) (gL (es.length + ys.length) (K ((st.drop k).newO (some d) (.row false (sz0 + 1) (es ++ ys) []))))
              | _ => none)
            | some (some (.row true sz es [])) => sB (Nat.beq sz (sz0 + 1)) (match shv st x with
              | some (.ref k2) => (match st.B[k2]? with
                | some (some (.row dp sz2 ys [])) => sB (Nat.beq sz2 (sz0 + 1) && !Nat.beq k k2) (gL (es.length + ys.length) (K (((st.drop k).drop k2).newO (some d) (.row true (sz0 + 1) (es ++ ys) []))))
                | _ => none)
              | _ => none)
            | _ => none)
          | _ => none))
      | none => none
    | .slice e, .str => match lkN E.ty e with
      | some ti => sB (Nat.ble ti.bytes 100000 && Nat.beq ti.size 1) (match opv st x with
        | some (.str b) => (match shv st s with
          | some .nil => (match memN hd d with
            | false => gL b.size (K (st.newO (some d) (.row false 1 (byteRow b) [])))
            | true => none)
          | some (.ref k) => (match st.B[k]? with
            | some (some (.row false sz es [])) => sB (Nat.beq sz 1) (gL (es.length + b.size) (K ((st.drop k).newO (some d) (.row false 1 (es ++ byteRow b) []))))
            | _ => none)
          | _ => none)
        | _ => none)
      | none => none
    | _, _ => none
  | _, _ => none

theorem wid_all : ∀ {sz : Nat} {ys : List (List MV)}, wid sz ys = true → ∀ y ∈ ys, y.length = sz
  | sz, [], _, y, hy => by simp at hy
  | sz, e :: r, h, y, hy => by
    unfold wid at h
    split at h
    · rename_i hb
      rcases List.mem_cons.1 hy with rfl | hy
      · exact beq_nat hb
      · exact wid_all h y hy
    · exact absurd h (by simp)

/-- What comes behind a row, new: the heap has grown, the row's block may have turned, others not. -/
theorem grown_chg (h : Rel γ ω w nt st a) {vs v' : Value} (hgr : w.grownBy w' vs.ownBlock) {k : Nat} (hk : ∀ b, vs.ownBlock = some b → ω b = some (.ob k [])) (ω' : Own) (hω : ∀ b, b < w.heap.size → (∀ p, ω b ≠ some (.ob k p)) → ω' b = ω b) :
    Chg (fun o => ∃ p, o = .ob k p) γ ω w (γ ++ [v']) ω' w' := by
  have hb : ∀ b, b < w.heap.size → (∀ p, ω b ≠ some (.ob k p)) → w'.heap[b]? = w.heap[b]? := fun b hb hn => hgr.block b hb (fun e => hn [] (hk b e.symm))
  refine ⟨hgr.os, hgr.tape, hgr.output, hgr.size, pre_app γ _, fun b hlt h0 => ?_, fun b o hlt h0 hno => ?_⟩
  · have hn : ∀ p, ω b ≠ some (.ob k p) := by intro p; rw [h0]; simp
    exact ⟨hb b hlt hn, by rw [hω b hlt hn]; exact h0⟩
  · have hn : ∀ p, ω b ≠ some (.ob k p) := by intro p e; rw [h0] at e; injection e with e; exact hno ⟨p, e⟩
    exact ⟨hb b hlt hn, by rw [hω b hlt hn]; exact h0⟩

theorem opv_ref {t : Operand} {ys : List (List MV)} (hy : opv st t = some (.list ys)) (h : Rel γ ω w nt st a) : Val γ ω w (.list ys) (a.eval t) := h.val hy

/-- Onto nil. -/
theorem app_key (h : Rel γ ω w nt st a) {d : Nat} (hdo : ∀ t, some d = some t → t < nt) {T T' ty e : TypeId} {sz0 : Nat} (hd1 : P.underlying T = some (.slice e)) (hs0 : sz0 + 1 = szOf P e) (hby' : bytesT P e ≤ 100000) {vs vx : Value} (hvs : vs = .slice none 0 0)
    {dp : Bool} {ys : List (List MV)} {news : List Value} {R : Nat → Nat → MV → Value → Prop} {ks : List Nat} {T0 : Owner → Prop} {f : Owner → Owner} {B : Bxs} (hy : AppX P w T' (sz0 + 1) ys.length vx news) (hcy : CellsP R (sz0 + 1) ys news) (hlen : ys.length ≤ 1000000000)
    (hT0 : ∀ o, T0 o → ∃ k p, k ∈ ks ∧ o = .ob k p) (hf : ∀ o, ¬ T0 o → f o = o) (hB : B.length = st.B.length) (hBk : ∀ (j : Nat) (o : Ob), B[j]? = some (some o) → st.B[j]? = some (some o) ∧ j ∉ ks)
    (hR : ∀ {w' : World} {v' : Value} {ω' : Own}, Keeps γ ω w (γ ++ [v']) ω' w' → (∀ b o, b < w.heap.size → ω b = some o → w'.heap[b]? = w.heap[b]? ∧ ω' b = some (f o)) → ∀ j i c u, R j i c u → CR (γ ++ [v']) ω' w' (.ob γ.length) [] dp j i c u)
    (hK : K (({ v := st.v, B := B } : St).newO (some d) (.row dp (sz0 + 1) ys [])) = some x) : Does P nt γ ω w a (some d) (Builtin.append_ #[T, T'] ty #[vs, vx]) K x := by
  have hr0 : w.ownsRow 0 e (sz0 + 1) vs 0 [] := by rw [hvs]; exact World.ownsRow_nil w 0 e (sz0 + 1)
  have hob : vs.ownBlock = none := by rw [hvs]; rfl
  obtain ⟨v', w', e'', hrun, hown', hgr, hblk⟩ := app_run (P := P) (ty := ty) hd1 hs0 (Nat.succ_pos sz0) hby' (n := 0) (m := ys.length) (by omega) hr0 hy hcy.len hcy.one
  let ω' : Own := fun b => if v'.ownBlock = some b then some (.ob γ.length []) else match ω b with | some o => some (f o) | none => none
  have hnew : ∀ b, v'.ownBlock = some b → w.heap.size ≤ b := fun b hb => by
    rcases (hblk b hb).1 with h1 | h1
    · rw [hob] at h1; exact absurd h1 (by simp)
    · exact h1
  have hold : ∀ b, b < w.heap.size → w'.heap[b]? = w.heap[b]? := fun b hb => hgr.block b hb (by rw [hob]; simp)
  have hω : ∀ b, b < w.heap.size → ω' b = match ω b with | some o => some (f o) | none => none := fun b hb => by
    simp only [ω']; rw [if_neg (fun e => by have := hnew b e; omega)]
  have hcg : Chg T0 γ ω w (γ ++ [v']) ω' w' := by
    refine ⟨hgr.os, hgr.tape, hgr.output, hgr.size, pre_app γ _, fun b hb h0 => ⟨hold b hb, by rw [hω b hb, h0]⟩, fun b o hb h0 hno => ⟨hold b hb, by rw [hω b hb, h0]; simp only [hf o hno]⟩⟩
  have hlt' : ∀ b, w'.heap.size ≤ b → ω' b = none := by
    intro b hb
    simp only [ω']
    rw [if_neg (fun e => by have := (hblk b e).2; omega), h.lt b (Nat.le_trans hgr.size hb)]
  obtain ⟨A', cap', hv'⟩ := row_slice hown'
  simp only [Nat.zero_add] at hown'
  have hcells := hcy.mono (R' := CR (γ ++ [v']) ω' w' (.ob γ.length) [] dp) (fun j i c u _ hr => hR hcg.keeps (fun b o hb h0 => ⟨hold b hb, by rw [hω b hb, h0]⟩) j i c u hr)
  refine ⟨v', w', hrun, _, ω', _, hcg.mono (fun o ho => by obtain ⟨k, p, _, e⟩ := hT0 o ho; rw [e]; simp), h.renew hT0 hcg hlt' hB hBk (o := .row dp (sz0 + 1) ys []) ⟨e'', news, .of (by simpa using hown') hcells (fun b hb => ⟨by simp [ω', hb], (hblk b hb).2⟩)⟩ (by rw [hv']; rfl) (by rw [hv']; rfl) hdo, hK⟩

/-- Onto a row that is there. -/
theorem app_keyR (h : Rel γ ω w nt st a) {d : Nat} (hdo : ∀ t, some d = some t → t < nt) {T T' ty e : TypeId} {sz0 : Nat} (hd1 : P.underlying T = some (.slice e)) (hs0 : sz0 + 1 = szOf P e) (hby' : bytesT P e ≤ 100000) {vs vx : Value} {k : Nat} (hrs : Rep γ ω w (.ref k) vs)
    {dp0 dp : Bool} {es ys : List (List MV)} {news : List Value} {R : Nat → Nat → MV → Value → Prop} {k2 : Nat} {f : Owner → Owner} {B : Bxs} (hk : st.B[k]? = some (some (.row dp0 (sz0 + 1) es []))) (hdp : dp = false → dp0 = false) (hy : AppX P w T' (sz0 + 1) ys.length vx news) (hcy : CellsP R (sz0 + 1) ys news)
    (hlen : es.length + ys.length ≤ 1000000000)
    (hf1 : ∀ p, f (.ob k p) = .ob γ.length p) (hf2 : ∀ k' p, k' ≠ k → k' ≠ k2 → f (.ob k' p) = .ob k' p) (hf3 : f .outer = .outer)
    (hB : B.length = st.B.length) (hBk : ∀ (j : Nat) (o : Ob), B[j]? = some (some o) → st.B[j]? = some (some o) ∧ j ∉ [k, k2])
    (hR : ∀ {w' : World} {v' : Value} {ω' : Own}, Keeps γ ω w (γ ++ [v']) ω' w' → (∀ b o, b < w.heap.size → ω b = some o → o ≠ .ob k [] → w'.heap[b]? = w.heap[b]? ∧ ω' b = some (f o)) → ∀ j i c u, R j i c u → CR (γ ++ [v']) ω' w' (fun p => match p with | (q, r) :: p' => .ob γ.length ((q + es.length, r) :: p') | [] => .ob γ.length []) [] dp j i c u)
    (hK : K (({ v := st.v, B := B } : St).newO (some d) (.row dp (sz0 + 1) (es ++ ys) [])) = some x) : Does P nt γ ω w a (some d) (Builtin.append_ #[T, T'] ty #[vs, vx]) K x := by
  obtain ⟨hd, g1, e', xs, g2⟩ := h.objs k _ hk
  have hva : vs = hd := by
    cases hrs with
    | ref _ _ hb _ _ => rw [g1] at hb; injection hb with hb; exact hb.symm
  obtain ⟨v', w', e'', hrun, hown', hgr, hblk⟩ := app_run (P := P) (ty := ty) hd1 hs0 (Nat.succ_pos sz0) hby' hlen g2.own hy hcy.len hcy.one
  rw [hva]
  let ω' : Own := fun b => if v'.ownBlock = some b then some (.ob γ.length []) else match ω b with | some o => some (f o) | none => none
  have hT0 : ∀ o, (∃ p, o = Owner.ob k p ∨ o = .ob k2 p) → ∃ k' p, k' ∈ [k, k2] ∧ o = .ob k' p := by
    rintro o ⟨p, rfl | rfl⟩
    · exact ⟨k, p, by simp, rfl⟩
    · exact ⟨k2, p, by simp, rfl⟩
  have hblkk : ∀ b, hd.ownBlock = some b → ω b = some (.ob k []) ∧ b < w.heap.size := g2.blk
  have hnew : ∀ b, v'.ownBlock = some b → b < w.heap.size → ω b = some (.ob k []) := fun b hb hlt => by
    rcases (hblk b hb).1 with h1 | h1
    · exact (hblkk b h1).1
    · omega
  have hold : ∀ b, b < w.heap.size → ω b ≠ some (.ob k []) → w'.heap[b]? = w.heap[b]? := fun b hb hn => hgr.block b hb (fun e => hn (hblkk b e.symm).1)
  have hω : ∀ b, b < w.heap.size → ω b ≠ some (.ob k []) → ω' b = match ω b with | some o => some (f o) | none => none := fun b hb hn => by
    simp only [ω']; rw [if_neg (fun e => hn (hnew b e hb))]
  have hcg : Chg (fun o => ∃ p, o = .ob k p ∨ o = .ob k2 p) γ ω w (γ ++ [v']) ω' w' := by
    refine ⟨hgr.os, hgr.tape, hgr.output, hgr.size, pre_app γ _, fun b hb h0 => ?_, fun b o hb h0 hno => ?_⟩
    · have hn : ω b ≠ some (.ob k []) := by rw [h0]; simp
      exact ⟨hold b hb hn, by rw [hω b hb hn, h0]⟩
    · have hn : ω b ≠ some (.ob k []) := by rw [h0]; intro e; injection e with e; exact hno ⟨[], .inl e⟩
      refine ⟨hold b hb hn, ?_⟩
      rw [hω b hb hn, h0]
      cases o with
      | ob k' p => simp only; rw [hf2 k' p (fun e => hno ⟨p, .inl (by rw [e])⟩) (fun e => hno ⟨p, .inr (by rw [e])⟩)]
      | outer => simp only [hf3]
  have hlt' : ∀ b, w'.heap.size ≤ b → ω' b = none := by
    intro b hb
    simp only [ω']
    rw [if_neg (fun e => by have := (hblk b e).2; omega), h.lt b (Nat.le_trans hgr.size hb)]
  obtain ⟨A', cap', hv'⟩ := row_slice hown'
  have hmv : ∀ b o, b < w.heap.size → ω b = some o → o ≠ .ob k [] → w'.heap[b]? = w.heap[b]? ∧ ω' b = some (f o) := fun b o hb h0 hn => by
    have hn' : ω b ≠ some (.ob k []) := by rw [h0]; intro e; injection e with e; exact hn e
    exact ⟨hold b hb hn', by rw [hω b hb hn', h0]⟩
  have hcells : CellsP (CR (γ ++ [v']) ω' w' (.ob γ.length) [] dp) (sz0 + 1) (es ++ ys) (xs ++ news) := by
    refine (g2.cellsP.append hcy).mono (fun j i c u _ hr => ?_)
    split at hr
    · simp only [CR, lkF] at hr ⊢
      refine ⟨fun e => hr.1 (hdp e), hr.2.moved hcg.keeps (fun p b hb h0 => ?_)⟩
      have := hmv b _ hb h0 (by simp)
      rw [hf1] at this; exact this
    · rename_i hge
      have := hR hcg.keeps hmv (j - es.length) i c u hr
      simp only [CR, lkF] at this ⊢
      rw [Nat.sub_add_cancel (by omega)] at this
      exact this
  refine ⟨v', w', hrun, _, ω', _, hcg.mono (fun o ho => by obtain ⟨k, p, _, e⟩ := hT0 o ho; rw [e]; simp), h.renew hT0 hcg hlt' hB hBk (o := .row dp (sz0 + 1) (es ++ ys) []) ⟨e'', _, .of (by rw [List.length_append]; exact hown') hcells (fun b hb => ⟨by simp [ω', hb], (hblk b hb).2⟩)⟩ (by rw [hv']; rfl) (by rw [hv']; rfl) hdo, hK⟩

theorem app_ok (hE : E.Ok P) (h : Rel γ ω w nt st a) {hd : List Nat} {d : Nat} (hdn : d < nt) {c : Call} (hx : appF E hd st d c K = some x) (ty : TypeId) :
    Does P nt γ ω w a (some d) (Builtin.append_ c.argTypes ty (c.args.map a.eval)) K x := by
  have hdo : ∀ t, some d = some t → t < nt := fun t ht => by injection ht with ht; subst ht; exact hdn
  obtain ⟨callee, args, argTypes⟩ := c
  unfold appF at hx
  simp only at hx ⊢
  split at hx
  · rename_i s y T T' hargs hat
    have hargs' : args = #[s, y] := by have := congrArg List.toArray hargs; simpa using this
    have hat' : argTypes = #[T, T'] := by have := congrArg List.toArray hat; simpa using this
    subst hargs'; subst hat'
    have e1 : #[s, y].map a.eval = #[a.eval s, a.eval y] := by simp
    rw [e1]
    split at hx
    · rename_i e e2 hk hk2
      obtain ⟨d1, hd1, hkd1⟩ := und_of_kd (kdE_ok hE hk (by simp)) (by simp)
      have := tk_slice hkd1; subst this
      obtain ⟨d2, hd2, hkd2⟩ := und_of_kd (kdE_ok hE hk2 (by simp)) (by simp)
      have := tk_slice hkd2; subst this
      split at hx
      · rename_i ti hti
        replace hx := sB_some hx; obtain ⟨hby, hx⟩ := hx
        have hti' := hE.ty _ _ hti
        have hby' : bytesT P e ≤ 100000 := by simp only [bytesT, hti']; exact ble_nat hby
        split at hx
        · exact absurd hx (by simp)
        · rename_i sz0 hsz
          have hs0 : sz0 + 1 = szOf P e := by simp [szOf, hti', hsz]
          -- the appended cells, where they are shared
          have flatY : ∀ {ys : List (List MV)}, opv st y = some (.list ys) → wid (sz0 + 1) ys = true → ∃ news, AppX P w T' (sz0 + 1) ys.length (a.eval y) news ∧ CellsP (FlatR γ ω w) (sz0 + 1) ys news := by
            intro ys hy hw
            obtain ⟨A, cc, news, g1, g2, g3⟩ := val_cells (h.val hy) (Nat.succ_pos sz0) (wid_all hw)
            refine ⟨news, ?_, g2⟩
            rw [g1]
            exact AppX.slice hd2 g2.len (fun hne => g3 (fun e => hne (by rw [e]; rfl)))
          -- where they are an object's
          have rowY : ∀ {k2 : Nat} {dp : Bool} {ys : List (List MV)}, shv st y = some (.ref k2) → st.B[k2]? = some (some (.row dp (sz0 + 1) ys [])) → ∃ news, AppX P w T' (sz0 + 1) ys.length (a.eval y) news ∧ CellsP (CR γ ω w (.ob k2) [] dp) (sz0 + 1) ys news := by
            intro k2 dp ys hy hk2
            obtain ⟨hdv, g1, e', xs, g2⟩ := h.objs k2 _ hk2
            have hr := h.shv hy
            generalize a.eval y = vy at hr ⊢
            cases hr with
            | ref _ _ hb _ _ =>
              rw [g1] at hb; injection hb with hb; subst hb
              obtain ⟨A, cap, hve⟩ := row_slice g2.own
              refine ⟨xs, ?_, g2.cellsP⟩
              rw [hve]
              refine AppX.slice hd2 g2.len (fun hne => ?_)
              obtain ⟨blk, cap', q1, q2⟩ := g2.hasBlk (by omega)
              rw [hve] at q2; injection q2 with q2 _ _
              refine ⟨blk, 0, q2, fun j u hj => ?_⟩
              obtain ⟨_, _, _, _, _, q5⟩ := g2.cells q1
              have := (q5 (j / (sz0 + 1)) (j % (sz0 + 1)) u (by rw [Nat.div_add_mod' j (sz0 + 1)]; exact hj)).1
              rw [Nat.div_add_mod' j (sz0 + 1)] at this
              rw [Nat.zero_add]; exact this
          split at hx
          · rename_i hnil
            have hvs : a.eval s = .slice none 0 0 := by
              have hr := h.shv hnil
              generalize a.eval s = v at hr ⊢
              cases hr; rfl
            split at hx
            · split at hx
              · rename_i ys hys
                replace hx := sB_some hx; obtain ⟨hw, hx⟩ := hx
                replace hx := gL_some hx; obtain ⟨hg, hx⟩ := hx
                obtain ⟨news, g1, g2⟩ := flatY hys hw
                exact app_key h hdo hd1 hs0 hby' hvs (dp := false) (ks := []) (T0 := fun _ => False) (f := id) (B := st.B) g1 g2 hg (fun _ h => h.elim) (fun _ _ => rfl) rfl (fun j o hj => ⟨hj, by simp⟩) (fun hk _ j i c u hr => by simp only [CR, lkF]; exact ⟨fun _ => hr.1, .rep _ _ _ hr.1 (hr.2.keeps hk)⟩) hx
              · exact absurd hx (by simp)
            · split at hx
              · rename_i k2 hk2
                split at hx
                · rename_i dp sz2 ys hB2
                  replace hx := sB_some hx; obtain ⟨hw, hx⟩ := hx
                  replace hx := gL_some hx; obtain ⟨hg, hx⟩ := hx
                  have := beq_nat hw; subst this
                  obtain ⟨news, g1, g2⟩ := rowY hk2 hB2
                  refine app_key h hdo hd1 hs0 hby' hvs (dp := true) (ks := [k2]) (T0 := fun o => ∃ p, o = .ob k2 p) (f := fun o => match o with | .ob k p => if k = k2 then .ob γ.length p else .ob k p | .outer => .outer) (B := st.B.set k2 none) g1 g2 hg
                    (fun o ⟨p, hp⟩ => ⟨k2, p, by simp, hp⟩) (fun o hno => ?_) (by simp) (fun j o hj => ?_) (fun hk hb j i c u hr => ?_) hx
                  · cases o with
                    | ob k p => simp only; rw [if_neg (fun e => hno ⟨p, by rw [e]⟩)]
                    | outer => rfl
                  · rw [List.getElem?_set] at hj
                    by_cases e : k2 = j
                    · subst e; split at hj
                      · split at hj <;> simp at hj
                      · rename_i hne; exact absurd rfl hne
                    · rw [if_neg e] at hj; exact ⟨hj, by simpa using fun e2 => e e2.symm⟩
                  · simp only [CR, lkF] at hr ⊢
                    refine ⟨fun h => by simp at h, hr.2.moved hk (fun p b hb2 h0 => ?_)⟩
                    have := hb b _ hb2 h0
                    simpa using this
                · exact absurd hx (by simp)
              · exact absurd hx (by simp)
          · rename_i k hks
            -- a row that is there
            have hrs := h.shv hks
            have setk : ∀ {B : Bxs} {k : Nat} {j : Nat} {o : Ob}, (B.set k none)[j]? = some (some o) → B[j]? = some (some o) ∧ j ≠ k := by
              intro B k j o hj
              rw [List.getElem?_set] at hj
              by_cases e : k = j
              · subst e; split at hj
                · split at hj <;> simp at hj
                · rename_i hne; exact absurd rfl hne
              · rw [if_neg e] at hj; exact ⟨hj, fun e2 => e e2.symm⟩
            split at hx
            · rename_i sz es hk
              replace hx := sB_some hx; obtain ⟨hz, hx⟩ := hx
              have := beq_nat hz; subst this
              split at hx
              · rename_i ys hys
                replace hx := sB_some hx; obtain ⟨hw, hx⟩ := hx
                replace hx := gL_some hx; obtain ⟨hg, hx⟩ := hx
                obtain ⟨news, g1, g2⟩ := flatY hys hw
                refine app_keyR h hdo hd1 hs0 hby' hrs (dp := false) (k2 := k) (f := fun o => match o with | .ob k' p => if k' = k then .ob γ.length p else .ob k' p | .outer => .outer) (B := st.B.set k none) hk (fun _ => rfl) g1 g2 hg (fun p => by simp) (fun k' p h1 _ => by simp [h1]) rfl (by simp) (fun j o hj => ?_) (fun hkp _ j i c u hr => ?_) hx
                · obtain ⟨q1, q2⟩ := setk hj; exact ⟨q1, by simpa using q2⟩
                · simp only [CR, lkF]; exact ⟨fun _ => hr.1, .rep _ _ _ hr.1 (hr.2.keeps hkp)⟩
              · exact absurd hx (by simp)
            · rename_i sz es hk
              replace hx := sB_some hx; obtain ⟨hz, hx⟩ := hx
              have := beq_nat hz; subst this
              split at hx
              · rename_i k2 hk2
                split at hx
                · rename_i dp sz2 ys hB2
                  replace hx := sB_some hx; obtain ⟨hw, hx⟩ := hx
                  replace hx := gL_some hx; obtain ⟨hg, hx⟩ := hx
                  simp only [Bool.and_eq_true, Bool.not_eq_true'] at hw
                  have := beq_nat hw.1; subst this
                  have hne : k ≠ k2 := by intro e; subst e; have := hw.2; simp at this
                  obtain ⟨news, g1, g2⟩ := rowY hk2 hB2
                  refine app_keyR h hdo hd1 hs0 hby' hrs (dp := true) (k2 := k2) (f := fun o => match o with | .ob k' p => if k' = k then .ob γ.length p else if k' = k2 then (match p with | (q, r) :: p' => .ob γ.length ((q + es.length, r) :: p') | [] => .ob γ.length []) else .ob k' p | .outer => .outer) (B := (st.B.set k none).set k2 none) hk (fun e => by simp at e) g1 g2 hg (fun p => by simp) (fun k' p h1 h2 => by simp [h1, h2]) rfl (by simp) (fun j o hj => ?_) (fun hkp hmv j i c u hr => ?_) hx
                  · obtain ⟨q1, q2⟩ := setk hj
                    obtain ⟨q3, q4⟩ := setk q1
                    exact ⟨q3, by simpa using ⟨q4, q2⟩⟩
                  · simp only [CR, lkF] at hr ⊢
                    refine ⟨fun h => by simp at h, hr.2.moved hkp (fun p b hb2 h0 => ?_)⟩
                    have := hmv b _ hb2 h0 (by intro e; injection e with e; exact hne e.symm)
                    simpa [Ne.symm hne] using this
                · exact absurd hx (by simp)
              · exact absurd hx (by simp)
            · exact absurd hx (by simp)
          · exact absurd hx (by simp)
      · exact absurd hx (by simp)
    · rename_i e hk hk2
      obtain ⟨d1, hd1, hkd1⟩ := und_of_kd (kdE_ok hE hk (by simp)) (by simp)
      have := tk_slice hkd1; subst this
      obtain ⟨d2, hd2, hkd2⟩ := und_of_kd (kdE_ok hE hk2 (by simp)) (by simp)
      have := tk_str hkd2; subst this
      split at hx
      · rename_i ti hti
        replace hx := sB_some hx; obtain ⟨hby, hx⟩ := hx
        rw [Bool.and_eq_true] at hby
        have hti' := hE.ty _ _ hti
        have hby' : bytesT P e ≤ 100000 := by simp only [bytesT, hti']; exact ble_nat hby.1
        have hs0 : 0 + 1 = szOf P e := by simp [szOf, hti', beq_nat hby.2]
        split at hx
        · rename_i b hb
          have hv : a.eval y = .string b := (h.val hb).str
          rw [hv]
          have hX : AppX P w T' (0 + 1) (byteRow b).length (.string b) (Go.Lib.strCells b) := by rw [byteRow_len]; exact AppX.str b hd2
          have hC : CellsP (FlatR γ ω w) (0 + 1) (byteRow b) (Go.Lib.strCells b) := strCells_P b
          split at hx
          · rename_i hnil
            have hvs : a.eval s = .slice none 0 0 := by
              have hr := h.shv hnil
              generalize a.eval s = v at hr ⊢
              cases hr; rfl
            split at hx
            · replace hx := gL_some hx; obtain ⟨hg, hx⟩ := hx
              exact app_key h hdo hd1 hs0 hby' hvs (dp := false) (ks := []) (T0 := fun _ => False) (f := id) (B := st.B) hX hC (by rw [byteRow_len]; exact hg) (fun _ h => h.elim) (fun _ _ => rfl) rfl (fun j o hj => ⟨hj, by simp⟩) (fun hk _ j i c u hr => by simp only [CR, lkF]; exact ⟨fun _ => hr.1, .rep _ _ _ hr.1 (hr.2.keeps hk)⟩) hx
            · exact absurd hx (by simp)
          · rename_i k hks
            have hrs := h.shv hks
            split at hx
            · rename_i sz es hk
              replace hx := sB_some hx; obtain ⟨hz, hx⟩ := hx
              have := beq_nat hz; subst this
              replace hx := gL_some hx; obtain ⟨hg, hx⟩ := hx
              refine app_keyR h hdo hd1 hs0 hby' hrs (dp := false) (k2 := k) (f := fun o => match o with | .ob k' p => if k' = k then .ob γ.length p else .ob k' p | .outer => .outer) (B := st.B.set k none) hk (fun _ => rfl) hX hC (by rw [byteRow_len]; exact hg) (fun p => by simp) (fun k' p h1 _ => by simp [h1]) rfl (by simp) (fun j o hj => ?_) (fun hkp _ j i c u hr => ?_) hx
              · rw [List.getElem?_set] at hj
                by_cases e : k = j
                · subst e; split at hj
                  · split at hj <;> simp at hj
                  · rename_i hne; exact absurd rfl hne
                · rw [if_neg e] at hj; exact ⟨hj, by simpa using fun e2 => e e2.symm⟩
              · simp only [CR, lkF]; exact ⟨fun _ => hr.1, .rep _ _ _ hr.1 (hr.2.keeps hkp)⟩
            · exact absurd hx (by simp)
          · exact absurd hx (by simp)
        · exact absurd hx (by simp)
      · exact absurd hx (by simp)
    · exact absurd hx (by simp)
  · exact absurd hx (by simp)
end
end Go.Pv
end
