/- The library of this work, part E4: the functions of pure values are right: operations. -/
import Derived.Test.YtoakchnegkmepaaDoorE3
set_option linter.unusedVariables false
set_option linter.unusedSimpArgs false
namespace Go.Pv

/-- Less is known, or a row is shared from now on. -/
def Wk (st st' : St) : Prop := ∀ (γ : List Nat) (ω : Own) (w : World) (nt : Nat) (a : Act), Rel γ ω w nt st a → ∃ ω', Chg NotOuter γ ω w γ ω' w ∧ Rel γ ω' w nt st' a

theorem Wk.refl (st : St) : Wk st st := fun γ ω w nt a h => ⟨ω, Chg.refl _ _ _ _, h⟩
theorem Wk.trans {st st1 st2 : St} (h : Wk st st1) (h2 : Wk st1 st2) : Wk st st2 := fun γ ω w nt a hr => by
  obtain ⟨ω1, c1, r1⟩ := h γ ω w nt a hr
  obtain ⟨ω2, c2, r2⟩ := h2 γ ω1 w nt a r1
  exact ⟨ω2, c1.trans c2, r2⟩
theorem Wk.of {st st' : St} (h : ∀ (γ : List Nat) (ω : Own) (w : World) (nt : Nat) (a : Act), Rel γ ω w nt st a → Rel γ ω w nt st' a) : Wk st st' := fun γ ω w nt a hr => ⟨ω, Chg.refl _ _ _ _, h γ ω w nt a hr⟩
theorem Wk.norm (st : St) (k : List Nat) : Wk st (st.norm k) := Wk.of fun γ ω w nt a h => h.norm k
theorem Wk.ext {st st' : St} (hB : st'.B = st.B) (hv : ∀ s, lk st'.v s = lk st.v s) : Wk st st' := Wk.of fun γ ω w nt a h => h.ext hB hv
theorem Wk.retire (st : St) (p : Place) : Wk st (st.retire p) := fun γ ω w nt a h => h.retire p
theorem Wk.retO (st : St) (x : Operand) : Wk st (retO st x) := by
  unfold Go.Pv.retO
  split
  · split
    · exact Wk.retire st _
    · exact Wk.retire st _
    · exact Wk.refl st
  · exact Wk.refl st
theorem Wk.retOs : ∀ (xs : List Operand) (st : St), Wk st (retOs st xs)
  | [], st => Wk.refl st
  | x :: r, st => (Wk.retO st x).trans (Wk.retOs r _)

theorem PW.wk {P : Program} {nt : Nat} {c : Code} {st st' : St} {Q : PX → St → Prop} (h : Wk st st') (hp : PW P nt c st' Q) : PW P nt c st Q := by
  intro γ ω w a R hr hk
  obtain ⟨ω', c1, r1⟩ := h γ ω w nt a hr
  exact hp γ ω' w a R r1 (fun e γ2 ω2 w2 st2 a2 g1 g2 g3 => hk e _ _ _ _ _ (c1.trans g1) g2 g3)

theorem lk_lit {st : St} {d : Nat} {b : Bool} (h : lk st.v d = .sh (.bool b)) (s : Nat) : lk (st.lit d b).v s = lk st.v s := by
  show lk (pt st.v d _) s = _
  rw [lk_pt]
  split
  · rename_i e; subst e; exact h.symm
  · rfl
theorem Wk.lit {st : St} {d : Nat} {b : Bool} (h : lk st.v d = .sh (.bool b)) : Wk st (st.lit d b) := Wk.ext rfl (lk_lit h)

theorem Rep.tops {γ : List Nat} {ω : Own} {w : World} {cs : List MV} {v : Value} (h : Rep γ ω w (.agg cs) v) : Rep γ ω w (.agg (cs.map MV.top)) v := by
  cases h with
  | agg _ us hl hh h1 =>
    refine .agg _ us (by simpa using hl) (fun i c u hc hu => ?_) h1
    rw [List.getElem?_map] at hc
    cases hq : cs[i]? with
    | none => rw [hq] at hc; simp at hc
    | some m =>
      rw [hq] at hc; simp at hc; subst hc
      exact (hh i m u hq hu).top
theorem Rep.topc {γ : List Nat} {ω : Own} {w : World} {cs : List MV} {o : Nat} {v : Value} (h : Rep γ ω w (.cptr cs o) v) : Rep γ ω w (.cptr (cs.map MV.top) o) v := by
  cases h with
  | cptr _ _ blk o us hω hlt hc hh =>
    refine .cptr _ _ blk o us hω hlt (fun i c hi => ?_) (fun i c hi => ?_)
    · rw [List.getElem?_map] at hi
      cases hq : cs[i]? with
      | none => rw [hq] at hi; simp at hi
      | some m => exact hc i m hq
    · rw [List.getElem?_map] at hi
      cases hq : cs[i]? with
      | none => rw [hq] at hi; simp at hi
      | some m =>
        rw [hq] at hi; simp at hi; subst hi
        exact (hh i m hq).top

theorem Wk.putSh {st : St} {d : Nat} {m m' : MV} (h : ∀ (γ : List Nat) (ω : Own) (w : World) (v : Value), Rep γ ω w m v → Rep γ ω w m' v) : Wk (st.put d (.sh m)) (st.put d (.sh m')) := Wk.of fun γ ω w nt a hr => by
  refine ⟨hr.size, hr.defers, hr.lt, hr.boxes, fun s => ?_⟩
  have hs := hr.slots s
  show CtRep γ ω w (st.put d (.sh m')) a.tmps (.slot s) (lk (pt _ d _) s) _
  have hs' : CtRep γ ω w (st.put d (.sh m)) a.tmps (.slot s) (lk (pt _ d _) s) _ := hs
  rw [lk_pt] at hs' ⊢
  by_cases e : d = s
  · rw [if_pos e] at hs' ⊢
    have hs'' : Rep γ ω w m (a.tmps.getD s undef) := hs'
    exact h γ ω w _ hs''
  · rw [if_neg e] at hs' ⊢
    refine hs'.mv (fun p sz n hp hat => ?_) (fun p u _ h => h)
    cases p with
    | slot q =>
      have h1 : lk (pt _ d (Ct.sh m)) q = .own sz n := hat
      show lk (pt _ d (Ct.sh m')) q = .own sz n
      rw [lk_pt] at h1 ⊢
      by_cases e : d = q
      · rw [if_pos e] at h1; exact absurd h1 (by simp)
      · rw [if_neg e] at h1 ⊢; exact h1
    | cell k o => exact hat
theorem Wk.putOSh {st : St} {d : Option Tmp} {m m' : MV} (h : ∀ (γ : List Nat) (ω : Own) (w : World) (v : Value), Rep γ ω w m v → Rep γ ω w m' v) : Wk (putO st d (.sh m)) (putO st d (.sh m')) := by
  cases d with
  | none => exact Wk.refl _
  | some d => exact Wk.putSh h

theorem Wk.putOwn {st : St} {d sz : Nat} {es es' : List (List MV)} (hl : es.length = es'.length) (h : ∀ (γ : List Nat) (ω : Own) (w : World) (o : Owner) (v : Value), OwnRep γ ω w o sz (.list es) v → OwnRep γ ω w o sz (.list es') v) : Wk (st.put d (.own sz (.list es))) (st.put d (.own sz (.list es'))) := Wk.of fun γ ω w nt a hr => by
  refine ⟨hr.size, hr.defers, hr.lt, hr.boxes, fun s => ?_⟩
  have hs := hr.slots s
  show CtRep γ ω w (st.put d (.own sz (.list es'))) a.tmps (.slot s) (lk (pt _ d _) s) _
  have hs' : CtRep γ ω w (st.put d (.own sz (.list es))) a.tmps (.slot s) (lk (pt _ d _) s) _ := hs
  rw [lk_pt] at hs' ⊢
  by_cases e : d = s
  · rw [if_pos e] at hs' ⊢
    have hs'' : OwnRep γ ω w (.slot s) sz (.list es) (a.tmps.getD s undef) := hs'
    exact h γ ω w _ _ hs''
  · rw [if_neg e] at hs' ⊢
    have key : ∀ (p : Place) (sz' : Nat) (n : MV), (st.put d (.own sz (.list es))).at p = .own sz' n → (p = .slot d ∧ sz' = sz ∧ n = .list es ∧ (st.put d (.own sz (.list es'))).at p = .own sz (.list es')) ∨ (st.put d (.own sz (.list es'))).at p = .own sz' n := by
      intro p sz' n hat
      cases p with
      | slot q =>
        have h1 : lk (pt _ d (Ct.own sz (.list es))) q = .own sz' n := hat
        have h2 : (st.put d (.own sz (.list es'))).at (.slot q) = lk (pt _ d (Ct.own sz (.list es'))) q := rfl
        rw [h2]
        rw [lk_pt] at h1 ⊢
        by_cases e : d = q
        · rw [if_pos e] at h1
          have h1' : Ct.own sz (.list es) = .own sz' n := h1
          injection h1' with e1 e2
          rw [if_pos e]
          exact .inl ⟨by rw [e], e1.symm, e2.symm, rfl⟩
        · rw [if_neg e] at h1 ⊢; exact .inr h1
      | cell k o => exact .inr hat
    revert hs'
    generalize lk (match lk st.v d with | .own _ _ => killS (.slot d) st.v | _ => st.v) s = c
    intro hs'
    cases c with
    | al p =>
      obtain ⟨⟨sz', n, h1⟩, h2⟩ := hs'
      rcases key p sz' n h1 with ⟨_, _, _, h3⟩ | h3
      · exact ⟨⟨_, _, h3⟩, h2⟩
      · exact ⟨⟨_, _, h3⟩, h2⟩
    | eadr p i off =>
      obtain ⟨sz', xs, u, blk, h1, h2, h3, h4, h5⟩ := hs'
      rcases key p sz' _ h1 with ⟨e1, e2, e3, h6⟩ | h6
      · injection e3 with e3
        subst e3; subst e2
        exact ⟨_, _, u, blk, h6, by omega, h3, h4, h5⟩
      · exact ⟨_, _, u, blk, h6, h2, h3, h4, h5⟩
    | _ => exact hs'

theorem own_topz {γ : List Nat} {ω : Own} {w : World} {o : Owner} {sz n : Nat} {z : List MV} {v : Value} (h : OwnRep γ ω w o sz (.list (List.replicate n z)) v) : OwnRep γ ω w o sz (.list (List.replicate n (z.map MV.top))) v := by
  cases h with
  | list _ _ e xs hr hc ho =>
    refine .list _ _ v e xs (by simpa using hr) ⟨by simpa using hc.len, fun y hy => ?_, hc.one, fun j y hy i c hi => ?_⟩ ho
    · obtain ⟨hn, rfl⟩ := List.mem_replicate.1 hy
      rw [List.length_map]
      exact hc.wid z (List.mem_replicate.2 ⟨by simpa using hn, rfl⟩)
    · have hj : j < n := by have := (List.getElem?_eq_some_iff.1 hy).1; simpa using this
      rw [List.getElem?_replicate, if_pos hj] at hy
      injection hy with hy; subst hy
      rw [List.getElem?_map] at hi
      cases hq : z[i]? with
      | none => rw [hq] at hi; simp at hi
      | some m =>
        rw [hq] at hi; simp at hi; subst hi
        obtain ⟨u, hu, hrep⟩ := hc.rep j z (by rw [List.getElem?_replicate, if_pos hj]) i m hq
        exact ⟨u, hu, hrep.top⟩

theorem shsM_map : ∀ {cs : List Ct} {ms : List MV}, shsM cs = some ms → cs = ms.map .sh
  | [], ms, h => by simp [shsM] at h; subst h; rfl
  | c :: r, ms, h => by
    cases c with
    | sh m =>
      simp only [shsM] at h
      split at h
      · rename_i l hl
        injection h with h; subst h
        rw [shsM_map hl]; rfl
      · exact absurd h (by simp)
    | _ => simp [shsM] at h
theorem shs_map : ∀ (ms : List MV), shs (ms.map .sh) = some ms
  | [] => rfl
  | m :: r => by simp only [List.map_cons, shs, shs_map r, Option.map_some]

/-- What is asked of the calls. -/
structure Sound (P : Program) (cl : FuncId → List MV → Bxs → Out) : Prop where
  plain : ∀ g args r B', cl g args [] = some (r, B') → npL args = true → Spec P g args r
  frame : ∀ g off args cs r cs' ex, cl g (.ptr 0 off :: args) [some cs] = some (r, some cs' :: ex) → npL args = true → (∀ c ∈ cs, npC c = true) → (∀ x ∈ r, x.1 = none) → SpecB P g (.ptr 0 off :: args) [some cs] r [some cs'] ∧ npR r ∧ npB (some cs')

section
variable {α : Type} {E : Env} {P : Program} {x : α} {nt : Nat} {fz : List Nat} {st : St}

theorem npL_mem : ∀ {l : List MV}, npL l = true → ∀ m ∈ l, np m = true
  | [], _, m, hm => by simp at hm
  | a :: r, h, m, hm => by
    simp only [npL, Bool.and_eq_true] at h
    rcases List.mem_cons.1 hm with e | e
    · rw [e]; exact h.1
    · exact npL_mem h.2 m e
theorem npL_app : ∀ {l k : List MV}, npL (l ++ k) = true → npL l = true ∧ npL k = true
  | [], k, h => ⟨rfl, h⟩
  | a :: r, k, h => by
    simp only [List.cons_append, npL, Bool.and_eq_true] at h
    obtain ⟨h1, h2⟩ := npL_app h.2
    exact ⟨by simp only [npL, h.1, h1]; rfl, h2⟩

theorem rC_some {ow : Option Nat} {r : Res} {K : MV → Res → Option α} (h : rC ow r K = some x) : ∃ m q, r = (ow, m) :: q ∧ K m q = some x := by
  unfold rC at h
  split at h
  · split at h
    · rename_i e; subst e; exact ⟨_, _, rfl, h⟩
    · exact absurd h (by simp)
  · exact absurd h (by simp)
theorem rN_some {r : Res} {o : Option α} (h : rN r o = some x) : r = [] ∧ o = some x := by
  unfold rN at h
  split at h
  · exact ⟨rfl, h⟩
  · exact absurd h (by simp)
theorem unR_some : ∀ {sg : List (Option Nat × Sh)} {r : Res} {K : Res → Option α}, unR sg r K = some x → K r = some x ∧ r.map (·.1) = sg.map (·.1)
  | [], r, K, h => by
    obtain ⟨e, h'⟩ := rN_some h
    subst e; exact ⟨h', rfl⟩
  | (ow, s) :: q, r, K, h => by
    obtain ⟨m, r', e, h'⟩ := rC_some h
    subst e
    have h2 := dSh_some (K := fun m' => unR q r' fun l => K ((ow, m') :: l)) h'
    obtain ⟨h3, h4⟩ := unR_some h2
    exact ⟨h3, by simp [h4]⟩

theorem dBs_flat {b : Bs} {m : MV} {K : MV → Option α} (hf : (match b with | .int _ => true | .bool => true | .str => true | _ => false) = true) (h : dBs b m K = some x) : flatM m = true := by
  unfold dBs at h
  split at h
  · obtain ⟨n, e, h'⟩ := dI_some h; subst e; rfl
  · obtain ⟨n, e, h'⟩ := dB_some h; subst e; rfl
  · obtain ⟨n, e, h'⟩ := dS_some h; subst e; rfl
  · simp at hf
  · simp at hf
  · simp at hf
theorem dCs_flat : ∀ {bs : List Bs} {cs : List MV} {K : List MV → Option α}, (bs.all fun b => match b with | .int _ => true | .bool => true | .str => true | _ => false) = true → dCs bs cs K = some x → flatL cs = true
  | [], cs, K, hf, h => by
    obtain ⟨e, h'⟩ := unN_some h; subst e; rfl
  | b :: r, cs, K, hf, h => by
    rw [List.all_cons, Bool.and_eq_true] at hf
    obtain ⟨m, q, e, h'⟩ := unC_some h
    subst e
    have h1 := dBs_flat hf.1 h'
    have h2 := dBs_some (K := fun m' => dCs r q fun l => K (m' :: l)) h'
    simp only [flatL, h1, dCs_flat hf.2 h2]; rfl
theorem dSh_flat {s : Sh} {m : MV} {K : MV → Option α} (hf : flatS s = true) (h : dSh s m K = some x) : flatV m = true := by
  unfold dSh at h
  split at h
  · rename_i b
    have : flatM m = true := dBs_flat (by cases b <;> first | rfl | (simp [flatS] at hf)) h
    cases m <;> first | exact this | (simp [flatM] at this)
  · rename_i l
    obtain ⟨n, e, h'⟩ := dA_some h
    subst e
    exact dCs_flat hf h'
theorem unR_flat : ∀ {sg : List (Option Nat × Sh)} {r : Res} {K : Res → Option α}, (sg.all fun x => x.1.isNone && flatS x.2) = true → unR sg r K = some x → flatR r = true
  | [], r, K, hf, h => by
    obtain ⟨e, h'⟩ := rN_some h
    subst e; rfl
  | (ow, s) :: q, r, K, hf, h => by
    rw [List.all_cons, Bool.and_eq_true, Bool.and_eq_true] at hf
    obtain ⟨m, r', e, h'⟩ := rC_some h
    subst e
    have h1 := dSh_flat hf.1.2 h'
    have h2 := dSh_some (K := fun m' => unR q r' fun l => K ((ow, m') :: l)) h'
    cases ow with
    | none => simp only [flatR, h1, unR_flat hf.2 h2]; rfl
    | some sz => simp at hf

theorem bC_some {cs : List Ct} {K : MV → List Ct → Option α} (h : bC cs K = some x) : ∃ m q, cs = .sh m :: q ∧ K m q = some x := by
  unfold bC at h
  split at h
  · exact ⟨_, _, rfl, h⟩
  · exact absurd h (by simp)
theorem bN_some {cs : List Ct} {o : Option α} (h : bN cs o = some x) : cs = [] ∧ o = some x := by
  unfold bN at h
  split at h
  · exact ⟨rfl, h⟩
  · exact absurd h (by simp)
theorem unB_some : ∀ {bs : List Bs} {cs : List Ct} {K : List MV → Option α}, unB bs cs K = some x → ∃ ms, cs = ms.map .sh ∧ K ms = some x
  | [], cs, K, h => by
    obtain ⟨e, h'⟩ := bN_some h
    subst e; exact ⟨[], rfl, h'⟩
  | b :: r, cs, K, h => by
    obtain ⟨m, q, e, h'⟩ := bC_some h
    subst e
    have h2 := dBs_some (K := fun m' => unB r q fun l => K (m' :: l)) h'
    obtain ⟨ms, h3, h4⟩ := unB_some h2
    exact ⟨m :: ms, by rw [h3]; rfl, h4⟩
theorem bX_some {B : Bxs} {K : List Ct → Option α} (h : bX B K = some x) : ∃ cs ex, B = some cs :: ex ∧ K cs = some x := by
  unfold bX at h
  split at h
  · exact ⟨_, _, rfl, h⟩
  · exact absurd h (by simp)
theorem callE_some {o : Out} {K : Res → Bxs → Option α} (h : callE o K = some x) : ∃ r B, o = some (r, B) ∧ K r B = some x := by
  unfold callE at h
  split at h
  · exact ⟨_, _, rfl, h⟩
  · exact absurd h (by simp)

theorem wid_all : ∀ {sz : Nat} {ys : List (List MV)}, wid sz ys = true → ∀ y ∈ ys, y.length = sz
  | sz, [], h, y, hy => by simp at hy
  | sz, e :: r, h, y, hy => by
    simp only [wid] at h
    split at h
    · rename_i hb
      rcases List.mem_cons.1 hy with q | q
      · rw [q]; exact beq_nat hb
      · exact wid_all h y q
    · exact absurd h (by simp)

theorem all_noTup {ms : List MV} (h : ms.all noTup = true) : ∀ m ∈ ms, ∀ vs, m ≠ .tup vs := by
  intro m hm vs e
  have := List.all_eq_true.1 h m hm
  subst e; simp [noTup] at this
theorem noTup_ne {m : MV} (h : noTup m = true) : ∀ vs, m ≠ .tup vs := by
  intro vs e; subst e; simp [noTup] at h

/-- Where an operation may end. -/
def Tgt (tp : Bool) (K : St → Option α) (x : α) (Q : St → Prop) : Prop := (∀ st', K st' = some x → Q st') ∧ (tp = true → ∀ st1 st2, Wk st1 st2 → K st2 = some x → Q st1)

theorem asg_fok (hE : E.Ok P) {tp : Bool} {ty d : Nat} {y : Operand} {K : St → Option α} {Q : St → Prop} (hT : Tgt tp K x Q) (h : asgF E st ty d y K = some x) : asgP P st ty d y Q := by
  unfold asgF at h
  unfold asgP
  split at h
  · rename_i t
    simp only
    split at h
    · rename_i m hc; rw [hc]; exact hT.1 _ h
    · rename_i sz m hc
      rw [hc]
      simp only
      split at h
      · rename_i e; rw [if_pos (beq_nat e)]; exact hT.1 _ h
      · rename_i e
        rw [if_neg (fun q => by subst q; simp at e)]; exact hT.1 _ h
    · rename_i p hc
      rw [hc]
      simp only
      split at h
      · rename_i e
        rw [if_pos (by simpa using e)]; exact hT.1 _ h
      · rename_i e
        rw [if_neg (by simpa using e)]
        split at h
        · rename_i m hm; rw [hm]; exact hT.1 _ h
        · exact absurd h (by simp)
    · rename_i p i o hc; rw [hc]; exact hT.1 _ h
    · exact absurd h (by simp)
  · rename_i v
    simp only
    split at h
    · rename_i hn
      rw [if_pos hn]
      split at h
      · rename_i e hk
        rw [kdE_ok hE hk (by simp)]
        simp only
        split at h
        · exact absurd h (by simp)
        · rename_i s hs
          rw [szE_ok hE hs]; exact hT.1 _ h
      · exact absurd h (by simp)
    · rename_i hn
      rw [if_neg (by rw [hn]; simp)]
      split at h
      · rename_i m hm; rw [hm]; exact hT.1 _ h
      · exact absurd h (by simp)
  · exact hT.1 _ h
  · exact absurd h (by simp)

theorem app_fok (hE : E.Ok P) {tp : Bool} {d : Nat} {c : Call} {K : St → Option α} {Q : St → Prop} (hT : Tgt tp K x Q) (h : appF E st d c K = some x) : appP P st d c Q := by
  unfold appF at h
  split at h
  · rename_i s y T T' hx hTT
    unfold appP
    rw [hx, hTT]
    simp only
    split at h
    · rename_i e e' hk hk'
      rw [kdE_ok hE hk (by simp), kdE_ok hE hk' (by simp)]
      simp only
      split at h
      · rename_i ti hti
        obtain ⟨hby, h⟩ := sB_some h
        have hby' : bytesT P e ≤ 100000 := by unfold bytesT; rw [hE.ty _ _ hti]; exact ble_nat hby
        split at h
        · exact absurd h (by simp)
        · rename_i sz0 hsz
          have hs : szOf P e = sz0 + 1 := by unfold szOf; rw [hE.ty _ _ hti]; exact hsz
          split at h
          · rename_i p hp
            rw [hp]
            simp only
            split at h
            · rename_i sz es hat
              rw [hat]
              simp only
              split at h
              · rename_i hb
                split at h
                · rename_i ys hy
                  obtain ⟨hw, h⟩ := sB_some h
                  obtain ⟨hg, h⟩ := gL_some h
                  have hb' := beq_nat hb
                  rw [hy]
                  exact ⟨by rw [hs]; exact hb', by omega, by rw [hb']; exact wid_all hw, hg, hby', hT.1 _ h⟩
                · exact absurd h (by simp)
              · exact absurd h (by simp)
            · exact absurd h (by simp)
          · rename_i hp
            rw [hp]
            simp only
            split at h
            · rename_i ys hn hy
              obtain ⟨hw, h⟩ := sB_some h
              obtain ⟨hg, h⟩ := gL_some h
              rw [hn, hy]
              exact ⟨by omega, by rw [hs]; exact wid_all hw, hg, hby', by rw [hs]; exact hT.1 _ h⟩
            · exact absurd h (by simp)
      · exact absurd h (by simp)
    · exact absurd h (by simp)
  · exact absurd h (by simp)

theorem mk_fok (hE : E.Ok P) {tp : Bool} {d : Nat} {T : TypeId} {l c : Operand} {K : St → Option α} {Q : St → Prop} (hT : Tgt tp K x Q) (h : mkF E tp st d T l c K = some x) : mkP P st d T l c Q := by
  have top : ∀ (ti : TI) (n : Nat), K (st.put d (.own ti.size (.list (List.replicate n (topIf tp ti.zero))))) = some x → Q (st.put d (.own ti.size (.list (List.replicate n ti.zero)))) := by
    intro ti n hk
    cases tp with
    | false => exact hT.1 _ hk
    | true => exact hT.2 rfl _ _ (Wk.putOwn (by simp) (fun γ ω w o v h => own_topz h)) hk
  unfold mkF at h
  split at h
  · rename_i e hk
    unfold mkP
    rw [kdE_ok hE hk (by simp)]
    simp only
    split at h
    · rename_i ti hti
      rw [hE.ty _ _ hti]
      simp only
      obtain ⟨hby, h⟩ := sB_some h
      split at h
      · exact absurd h (by simp)
      · rename_i sz hsz
        split at h
        · rename_i k n hl
          split at h
          · rename_i heq
            obtain ⟨hn, h⟩ := gd_some h
            have e : opv st c = some (.int k n) := by
              cases l <;> cases c <;> simp only [eqOp] at heq <;> first | (rw [← beq_nat heq]; exact hl) | exact absurd heq (by simp)
            rw [hl, e]
            exact ⟨rfl, hn.1, hn.2, ble_nat hby, by omega, top ti _ h⟩
          · split at h
            · rename_i k' n' hc
              obtain ⟨hn, h⟩ := gd_some h
              rw [hl, hc]
              exact ⟨hn.1, hn.2.1, hn.2.2, ble_nat hby, by omega, top ti _ h⟩
            · exact absurd h (by simp)
        · exact absurd h (by simp)
    · exact absurd h (by simp)
  · exact absurd h (by simp)

theorem bs_fok (hE : E.Ok P) {tp : Bool} {d : Nat} {T : TypeId} {len : Nat} {parts : List (Nat × Operand)} {K : St → Option α} {Q : St → Prop} (hT : Tgt tp K x Q) (h : bsF E st d T len parts K = some x) : bsP P st d T len parts Q := by
  unfold bsF at h
  split at h
  · rename_i e hk
    unfold bsP
    rw [kdE_ok hE hk (by simp)]
    simp only
    split at h
    · exact absurd h (by simp)
    · rename_i sz hsz
      obtain ⟨ms, hms, h⟩ := sO_some h
      obtain ⟨es, hes, h⟩ := sO_some h
      obtain ⟨h1, h⟩ := sB_some h
      obtain ⟨h2, h⟩ := sB_some h
      obtain ⟨h3, h⟩ := sB_some h
      obtain ⟨h4, h⟩ := sB_some h
      have hs := szE_ok hE hsz
      rw [hms]
      simp only
      rw [hes]
      refine ⟨⟨by rw [hs]; simp, beq_nat h1, by rw [hs]; exact ble_nat h2⟩, by rw [hs]; exact wid_all h4, all_noTup h3, by rw [hs]; exact hT.1 _ h⟩
  · exact absurd h (by simp)

theorem fill_fok (hE : E.Ok P) {T : TypeId} : ∀ {l : List (Nat × MV)} {cs ds : List MV}, fillF E T l cs = some ds → fillS P T l cs = some ds
  | [], cs, ds, h => h
  | (i, m) :: r, cs, ds, h => by
    simp only [fillF] at h
    split at h
    · rename_i o fT hf
      split at h
      · exact absurd h (by simp)
      · rename_i s hs
        split at h
        · rename_i h1
          split at h
          · rename_i h2
            simp only [fillS]
            rw [fieldE_ok hE hf]
            simp only
            rw [if_pos ⟨by rw [szE_ok hE hs]; exact beq_nat h1, ble_nat h2⟩]
            exact fill_fok hE h
          · exact absurd h (by simp)
        · exact absurd h (by simp)
    · exact absurd h (by simp)

theorem tys_fok (hE : E.Ok P) {T : TypeId} (h : tysE E T = true) : tysOk P T = true := by
  unfold tysE at h
  unfold tysOk
  split at h
  · rename_i fs hk
    rw [kdE_ok hE hk (by simp)]
    simp only
    rw [List.all_eq_true] at h ⊢
    intro f hf
    have := h f hf
    cases hq : lkN E.ty f.2 with
    | none => rw [hq] at this; simp at this
    | some ti => rw [hE.ty _ _ hq]; rfl
  · exact absurd h (by simp)

theorem exps_some (hE : E.Ok P) {T : TypeId} : ∀ {l : List (Nat × MV)} {K : List MV → Option α}, expsF E T l K = some x → K (l.map (·.2)) = some x
  | [], K, h => h
  | (i, m) :: r, K, h => by
    simp only [expsF] at h
    split at h
    · split at h
      · have h2 := expF_some (K := fun m' => expsF E T r fun l => K (m' :: l)) h
        exact exps_some hE (K := fun l => K (m :: l)) h2
      · exact absurd h (by simp)
    · exact absurd h (by simp)

theorem shvs_len {st : St} : ∀ {xs : List Operand} {ms : List MV}, shvs st xs = some ms → ms.length = xs.length
  | [], ms, h => by simp [shvs] at h; subst h; rfl
  | y :: r, ms, h => by
    simp only [shvs] at h
    split at h
    · rename_i m l hm hl
      injection h with h; subst h
      simp [shvs_len hl]
    · exact absurd h (by simp)

theorem bld_fok (hE : E.Ok P) {tp : Bool} {dst : Option Tmp} {T : TypeId} {parts : List (Nat × Operand)} {K : St → Option α} {Q : St → Prop} (hT : Tgt tp K x Q) (h : bldF E tp st dst T parts K = some x) : bldP P st dst T parts Q := by
  unfold bldF at h
  split at h
  · rename_i ti hti
    obtain ⟨ms0, hms, h⟩ := sO_some h
    have h2 := exps_some hE h
    have hlen : ((parts.map (·.1)).zip ms0).map (·.2) = ms0 := by
      rw [List.map_snd_zip]
      have := shvs_len hms
      simp at this ⊢; omega
    rw [hlen] at h2
    obtain ⟨cs, hcs, h⟩ := sO_some h2
    obtain ⟨h3, h⟩ := sB_some h
    obtain ⟨h4, h⟩ := sB_some h
    obtain ⟨h5, h⟩ := sB_some h
    unfold bldP
    rw [hE.ty _ _ hti]
    simp only
    rw [hms]
    simp only
    rw [fill_fok hE hcs]
    refine ⟨fun m hm => ⟨all_noTup h3 m hm, fun e => ?_⟩, tys_fok hE h5, ?_⟩
    · have := List.all_eq_true.1 h4 m hm
      rw [List.length_eq_zero_iff.1 e] at this
      simp at this
    · cases tp with
      | false => exact hT.1 _ h
      | true => exact hT.2 rfl _ _ (Wk.putOSh (fun γ ω w v h => h.tops)) h
  · exact absurd h (by simp)

theorem box_fok (hE : E.Ok P) {tp fz : Bool} {dst : Option Tmp} {T : TypeId} {y : Operand} {K : St → Option α} {Q : St → Prop} (hT : Tgt tp K x Q) (h : boxF E fz st dst T y K = some x) : boxP fz st dst y Q := by
  unfold boxF at h
  obtain ⟨m, hm, h⟩ := sO_some h
  unfold boxP
  rw [hm]
  simp only
  cases fz with
  | true =>
    obtain ⟨h1, h⟩ := sB_some h
    exact ⟨noTup_ne h1, by rw [if_pos rfl]; exact hT.1 _ h⟩
  | false =>
    obtain ⟨ti, hti, h⟩ := sO_some h
    have h2 := expF_some h
    obtain ⟨h1, h⟩ := sB_some h2
    exact ⟨noTup_ne h1, by rw [if_neg (by simp)]; exact hT.1 _ h⟩

theorem alo_fok (hE : E.Ok P) {tp fz : Bool} {dst : Option Tmp} {T : TypeId} {K : St → Option α} {Q : St → Prop} (hT : Tgt tp K x Q) (h : aloF E tp fz st dst T K = some x) : aloP P fz st dst T Q := by
  unfold aloF at h
  split at h
  · rename_i ti hti
    unfold aloP
    rw [hE.ty _ _ hti]
    simp only
    cases fz with
    | true =>
      rw [if_pos rfl]
      cases tp with
      | false => exact hT.1 _ h
      | true => exact hT.2 rfl _ _ (Wk.putOSh (fun γ ω w v h => h.topc)) h
    | false => rw [if_neg (by simp)]; exact hT.1 _ h
  · exact absurd h (by simp)

theorem stoE_fok (hE : E.Ok P) {tp : Bool} {T : TypeId} {p : Place} {i off : Nat} {y : Operand} {K : St → Option α} {Q : St → Prop} (hT : Tgt tp K x Q) (h : stoEF E st T p i off y K = some x) : stoE P st T p i off y Q := by
  unfold stoEF at h
  split at h
  · rename_i sz es hat
    obtain ⟨m, hm, h⟩ := sO_some h
    obtain ⟨e, he, h⟩ := rdN_some h
    obtain ⟨h1, h⟩ := sB_some h
    split at h
    · exact absurd h (by simp)
    · rename_i sT hsT
      obtain ⟨h2, h⟩ := gd_some h
      obtain ⟨h3, h⟩ := sB_some h
      have hs := szE_ok hE hsT
      unfold stoE
      rw [hat]
      simp only
      rw [hm, he]
      exact ⟨noTup_ne h1, by rw [hs]; exact h2, by rw [hs]; simp, by rw [hs]; exact ble_nat h3, hT.1 _ h⟩
  · exact absurd h (by simp)

theorem stoB_fok (hE : E.Ok P) {tp : Bool} {T : TypeId} {t k off : Nat} {y : Operand} {K : St → Option α} {Q : St → Prop} (hT : Tgt tp K x Q) (hsh : shv (retO st y) (.tmp t) = some (.ptr k off)) (h : stoBF E st T k off y K = some x) : stoB P st T (.tmp t) y Q := by
  unfold stoBF at h
  split at h
  · rename_i cs hk
    obtain ⟨m0, hm0, h⟩ := sO_some h
    obtain ⟨ti, hti, h⟩ := sO_some h
    have h := expF_some h
    obtain ⟨h1, h⟩ := sB_some h
    split at h
    · exact absurd h (by simp)
    · rename_i sT hsT
      obtain ⟨h2, h⟩ := sB_some h
      obtain ⟨h3, h⟩ := sB_some h
      obtain ⟨h4, h⟩ := sB_some h
      have hs := szE_ok hE hsT
      unfold stoB
      rw [hsh]
      simp only
      rw [hk]
      simp only
      rw [hm0]
      exact ⟨noTup_ne h1, by rw [hs]; exact beq_nat h2, by rw [hs]; simp, by rw [hs]; exact ble_nat h3, h4, hT.1 _ h⟩
  · exact absurd h (by simp)

theorem sto_fok (hE : E.Ok P) {tp : Bool} {T : TypeId} {ad y : Operand} {K : St → Option α} {Q : St → Prop} (hT : Tgt tp K x Q) (h : stoF E st T ad y K = some x) : stoP P st T ad y Q := by
  unfold stoF at h
  split at h
  · rename_i t
    split at h
    · rename_i p i off hc
      simp only [stoP]
      rw [hc]
      exact stoE_fok hE hT h
    · rename_i k off hc
      simp only [stoP]
      rw [hc]
      simp only
      split at h
      · rename_i k2 off2 hsh
        exact stoB_fok hE hT hsh h
      · exact absurd h (by simp)
    · exact absurd h (by simp)
  · exact absurd h (by simp)

theorem frm_fok (hE : E.Ok P) {cl : FuncId → List MV → Bxs → Out} (hcl : Sound P cl) {tp : Bool} {dst : Option Tmp} {f : Operand} {xs : List Operand} {g : FuncId} {cs ms : List MV} {sg : List (Option Nat × Sh)} {k off : Nat} {K : St → Option α} {Q : St → Prop} (hT : Tgt tp K x Q)
    (hf : fnOf st f = some (g, cs)) (hsv : shvs (retOs st xs) xs = some (.ptr k off :: ms)) (h : frmF E cl (retOs st xs) dst g sg k off (ms.map MV.top ++ cs) K = some x) : calP P st dst f xs Q := by
  unfold frmF at h
  split at h
  · rename_i bs hk
    obtain ⟨cm, hcm, h⟩ := sO_some h
    obtain ⟨hnp, h⟩ := npG_some h
    obtain ⟨r, B', hc, h⟩ := callE_some h
    obtain ⟨h, hsg⟩ := unR_some h
    obtain ⟨hno, h⟩ := sB_some h
    obtain ⟨cs', ex, hB', h9⟩ := bX_some h
    obtain ⟨cm', hcs', h8⟩ := unB_some h9
    subst hcs'
    subst hB'
    have hcm2 := shsM_map hcm
    obtain ⟨hn1, hn2⟩ := npL_app hnp
    have hbs : ∀ c ∈ bs, npC c = true := by
      rw [hcm2]
      intro c hc
      obtain ⟨m, hm, rfl⟩ := List.mem_map.1 hc
      exact npL_mem hn2 m hm
    have hr : ∀ y ∈ r, y.1 = none := by
      intro y hy
      have h1 : y.1 ∈ r.map (·.1) := List.mem_map_of_mem hy
      rw [hsg] at h1
      obtain ⟨z, hz, e⟩ := List.mem_map.1 h1
      have := List.all_eq_true.1 hno z hz
      rw [← e]
      cases hq : z.1 with
      | none => rfl
      | some _ => rw [hq] at this; simp at this
    obtain ⟨hs, hnr, hnb⟩ := hcl.frame g off _ bs r _ ex hc hn1 hbs hr
    have hB : (retOs st xs).B[k]? = some (some bs) := hk
    have hfr := SpecB.frame hs (fun m hm => npL_mem hn1 m hm) hnr (by intro c hc q hq; injection hc with hc; subst hc; exact hbs q hq) hnb hB
    refine calP_box (ms := .ptr k off :: ms) hf hsv ?_ (hT.1 _ h8)
    exact hfr
  · exact absurd h (by simp)

theorem call_fok (hE : E.Ok P) {cl : FuncId → List MV → Bxs → Out} (hcl : Sound P cl) {tp : Bool} {dst : Option Tmp} {ty : TypeId} {f : Operand} {xs : List Operand} {K : St → Option α} {Q : St → Prop} (hT : Tgt tp K x Q) (h : callF E cl st dst ty f xs K = some x) : calP P st dst f xs Q := by
  unfold callF at h
  split at h
  · exact absurd h (by simp)
  rename_i g cs hf
  split at h
  · exact absurd h (by simp)
  rename_i fp hfp
  split at h
  · exact absurd h (by simp)
  · rename_i k off ms hsv
    exact frm_fok hE hcl hT hf hsv h
  · rename_i ms hno hsv
    split at h
    · exact absurd h (by simp)
    rename_i ms' hms'
    split at h
    · rename_i hfl
      obtain ⟨hnp, h⟩ := npG_some h
      obtain ⟨r, B', hc, h⟩ := callE_some h
      have hflat := unR_flat hfl h
      obtain ⟨h, hsg⟩ := unR_some h
      exact calP_lent hf hms' (hcl.plain g _ r B' hc hnp) hflat (hT.1 _ h)
    · obtain ⟨hnp, h⟩ := npG_some h
      obtain ⟨r, B', hc, h⟩ := callE_some h
      obtain ⟨h, hsg⟩ := unR_some h
      exact calP_ret hf hms' hsv (hcl.plain g _ r B' hc hnp) (hT.1 _ h)

theorem dst_some {d : Option Tmp} {o : Option α} (h : dstF d nt o = some x) : dOk d nt ∧ o = some x := by
  unfold dstF at h
  split at h
  · obtain ⟨h1, h⟩ := sB_some h
    exact ⟨by simpa [dOk] using h1, h⟩
  · exact ⟨trivial, h⟩

theorem op_fok (hE : E.Ok P) {cl : FuncId → List MV → Bxs → Out} (hcl : Sound P cl) {tp : Bool} {o : Oper} {K : St → Option α} {Q : St → Prop} (hT : Tgt tp K x Q) (h : opF E cl tp nt fz o st K = some x) : opP P nt fz o st Q := by
  obtain ⟨hd, h9⟩ := dst_some h
  clear h
  have h := h9
  clear h9
  obtain ⟨dst, op, ty, pos, after, guard⟩ := o
  refine ⟨hd, ?_⟩
  have hpure : ∀ op, pureF E st op (fun ct => K (putO st dst ct)) = some x → pureP P st op (fun ct => Q (putO st dst ct)) := fun op hop => pure_fok hE (fun c hc => hT.1 _ hc) hop
  simp only at h ⊢
  split at h
  · rename_i y
    split at h
    · exact asg_fok hE hT h
    · exact absurd h (by simp)
  · rename_i c
    cases hcal : c.callee with
    | value f =>
      simp only [hcal] at h ⊢
      exact call_fok hE hcl hT h
    | builtin bi =>
      cases bi with
      | append =>
        simp only [hcal] at h ⊢
        split at h
        · exact app_fok hE hT h
        · exact absurd h (by simp)
      | _ => simp only [hcal] at h ⊢; exact hpure _ h
    | invoke r m => simp only [hcal] at h ⊢; exact hpure _ h
  · split at h
    · exact mk_fok hE hT h
    · exact absurd h (by simp)
  · split at h
    · exact bs_fok hE hT h
    · exact absurd h (by simp)
  · exact bld_fok hE hT h
  · exact box_fok hE hT h
  · exact alo_fok hE hT h
  · split at h
    · exact ⟨rfl, sto_fok hE hT h⟩
    · exact absurd h (by simp)
  · rename_i s T y
    simp only
    split at h
    · rename_i d b e hs hk
      split at h
      · rename_i hk1 hk2
        simp only [hs, kdE_ok hE hk (by simp)]
        unfold strB
        rw [kdE_ok hE hk (by simp)]
        simp only [hs]
        exact ⟨kdE_ok hE hk1 (by simp), kdE_ok hE hk2 (by simp), hT.1 _ h⟩
      · exact absurd h (by simp)
    · exact absurd h (by simp)
    · rename_i hno2 hno
      have := hpure _ h
      have hk : kdOf P T = kdE E T := kdE_ok hE rfl (fun e => hno2 e)
      split
      · rename_i d b e h1 h2
        exact (hno _ _ _ rfl h1 (by rw [← hk]; exact h2)).elim
      · exact this
  rename_i a1 a2 a3 a4 a5 a6 a7 a8 a9
  have := hpure _ h
  split
  · exact (a1 _ rfl).elim
  · exact (a2 _ rfl).elim
  · exact (a3 _ _ _ rfl).elim
  · exact (a4 _ _ _ rfl).elim
  · exact (a5 _ _ rfl).elim
  · exact (a6 _ _ rfl).elim
  · exact (a7 _ rfl).elim
  · exact (a8 _ _ _ rfl).elim
  · exact (a9 _ _ _ rfl).elim
  · exact this

end
end Go.Pv
