/- A library of this session: a variable in memory that turns no more. -/
import Derived.Test.YtoakchnegkmepaaM33
set_option linter.unusedVariables false
set_option linter.unusedSimpArgs false
namespace Go.Pv

theorem shs_get : ∀ {cs : List Ct} {ms : List MV}, shs cs = some ms → cs = ms.map .sh := fun h => shs_rep (k := 0) h

theorem Rel.freeze {γ : List Nat} {ω : Own} {w : World} {nt : Nat} {st : St} {a : Act} (h : Rel γ ω w nt st a) {k t : Nat} {cs : List Ct} {ms : List MV} (ht : lk st.v t = .sh (.ptr k 0)) (hk : st.B[k]? = some (some cs)) (hms : shs cs = some ms) :
    ∃ ω', Chg NotOuter γ ω w γ ω' w ∧ Rel γ ω' w nt ⟨pt st.v t (.sh (.cptr ms 0)), st.B.set k none⟩ a := by
  have hcs := shs_get hms
  obtain ⟨blk, cur, e, h1, h2, h3, h4, h5, h6⟩ := h.boxes.box k cs hk
  let ω' : Own := fun b => if b = blk then none else ω b
  have hn : ∀ b, ω b = none → ω' b = none := fun b hb => by simp only [ω']; split <;> first | rfl | exact hb
  have hc : Chg (fun o => o = .box k) γ ω w γ ω' w := ⟨rfl, rfl, rfl, Nat.le_refl _, fun _ _ h => h, fun b hb h0 => ⟨rfl, hn b h0⟩, fun b o hb h0 hno => ⟨rfl, by
    have : b ≠ blk := fun e => by subst e; rw [h3] at h0; injection h0 with h0; exact hno h0.symm
    simp only [ω', if_neg this]; exact h0⟩⟩
  have hat : ∀ p sz m, st.at p = .own sz m → (⟨pt st.v t (.sh (.cptr ms 0)), st.B.set k none⟩ : St).at p = .own sz m := by
    intro p sz m hp
    cases p with
    | slot s =>
      simp only [St.at] at hp ⊢
      rw [lk_pt]
      by_cases e : t = s
      · subst e; rw [ht] at hp; exact absurd hp (by simp)
      · rw [if_neg e]; exact hp
    | cell j off =>
      obtain ⟨ds, q1, q2⟩ := at_cell hp
      have hne : k ≠ j := by
        intro e
        subst e
        rw [hk] at q1; injection q1 with q1; injection q1 with q1
        subst q1
        rw [hcs, List.getElem?_map] at q2
        cases hq : ms[off]? <;> rw [hq] at q2 <;> simp at q2
      simp only [St.at] at hp ⊢
      rw [List.getElem?_set_ne hne]; exact hp
  refine ⟨ω', hc.mono (fun o ho => by subst ho; simp [NotOuter]), h.size, h.defers, fun b hb => hn b (h.lt b hb), ⟨by rw [List.length_set]; exact h.boxes.len, fun j ds hj => ?_⟩, fun s => ?_⟩
  · by_cases hjk : k = j
    · subst hjk
      have hlt : k < st.B.length := (List.getElem?_eq_some_iff.1 hk).1
      rw [List.getElem?_set_self hlt] at hj
      exact absurd hj (by simp)
    · rw [List.getElem?_set_ne hjk] at hj
      obtain ⟨blk2, cur2, e2, g1, g2, g3, g4, g5, g6⟩ := h.boxes.box j ds hj
      obtain ⟨q1, q2⟩ := hc.keep blk2 _ g2 g3 (by intro hh; injection hh with hh; exact hjk hh.symm)
      refine ⟨blk2, cur2, e2, g1, g2, q2, g4, g5, fun i c hi => ?_⟩
      obtain ⟨u, hu, ho, hb⟩ := g6 i c hi
      exact ⟨u, hu, ho, hb.chg hc (by simp)⟩
  · have hold := h.slots s
    simp only
    rw [lk_pt]
    by_cases e : t = s
    · subst e
      rw [if_pos rfl]
      rw [ht] at hold
      have hv : a.tmps.getD t undef = .pointer (some ⟨blk, 0, none⟩) := by
        have hr : Rep γ ω w (.ptr k 0) (a.tmps.getD t undef) := hold
        generalize a.tmps.getD t undef = v at hr
        cases hr with
        | ptr _ _ b hb => rw [h1] at hb; injection hb with hb; subst hb; rfl
      rw [hv]
      show Rep γ ω' w (.cptr ms 0) (.pointer (some ⟨blk, 0, none⟩))
      have hrep : ∀ (i : Nat) (c : MV), ms[i]? = some c → ∃ u, cur[i]? = some u ∧ u.oneCell' = true ∧ Rep γ ω w c u := by
        intro i c hi
        obtain ⟨u, hu, ho, hb⟩ := h6 i (.sh c) (by rw [hcs, List.getElem?_map, hi]; rfl)
        exact ⟨u, hu, ho, hb⟩
      have key := Rep.cptr (γ := γ) (ω := ω') (w := w) ms 0 blk 0 (fun i => cur.getD i undef) (by simp [ω']) h2 (fun i c hi => by
          obtain ⟨u, hu, ho, _⟩ := hrep i c hi
          have hg : cur.getD i undef = u := by rw [Array.getD_eq_getD_getElem?, hu]; rfl
          rw [hg]
          refine ⟨?_, ho⟩
          unfold World.cell?
          simp only [h4, Nat.zero_add]
          exact hu) (fun i c hi => by
          obtain ⟨u, hu, ho, hb⟩ := hrep i c hi
          have hg : cur.getD i undef = u := by rw [Array.getD_eq_getD_getElem?, hu]; rfl
          rw [hg]; exact hb.relabel hn)
      exact key
    · rw [if_neg e]
      cases hcc : lk st.v s with
      | sh m => rw [hcc] at hold; exact (show Rep γ ω w m _ from hold).relabel hn
      | own sz m => rw [hcc] at hold; exact (show OwnRep γ ω w (.slot s) sz m _ from hold).chg hc (by simp)
      | al p =>
        rw [hcc] at hold
        obtain ⟨⟨sz, m, q1⟩, q2⟩ := hold
        exact ⟨⟨sz, m, hat p sz m q1⟩, q2⟩
      | eadr p i o =>
        rw [hcc] at hold
        obtain ⟨sz, es, u, b, q1, q2⟩ := hold
        exact ⟨sz, es, u, b, hat p _ _ q1, q2⟩
      | tupc ds =>
        rw [hcc] at hold
        obtain ⟨vs, q1, q2, q3⟩ := hold
        refine ⟨vs, q1, q2, fun i c u hi hu => ?_⟩
        have := q3 i c u hi hu
        obtain ⟨c1, c2⟩ := c
        cases c1 with
        | none => exact (show Rep γ ω w c2 u from this).relabel hn
        | some sz => exact (show OwnRep γ ω w (.slot s) sz c2 u from this).chg hc (by simp)
      | siter s' pos =>
        rw [hcc] at hold
        obtain ⟨b, q1, q2, q3, q4⟩ := hold
        exact ⟨b, q1, (hc.keep b _ q3 q2 (by simp)).2, q3, q4⟩
      | dead => trivial

theorem PW.freeze {P : Program} {nt : Nat} {st : St} {Q : PX → St → Prop} {c : Code} (k t : Nat) {cs : List Ct} {ms : List MV} (ht : lk st.v t = .sh (.ptr k 0)) (hk : st.B[k]? = some (some cs)) (hms : shs cs = some ms) (h : PW P nt c ⟨pt st.v t (.sh (.cptr ms 0)), st.B.set k none⟩ Q) : PW P nt c st Q := by
  intro γ ω w a R hr hq
  obtain ⟨ω', h1, h2⟩ := hr.freeze ht hk hms
  exact h γ ω' w a R h2 (fun e γ2 ω2 w2 st2 a2 g1 g2 g3 => hq e _ _ _ _ _ (h1.trans g1) g2 g3)

end Go.Pv
