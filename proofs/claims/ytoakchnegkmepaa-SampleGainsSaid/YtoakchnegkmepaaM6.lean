/- A library of this session: the rest of the operations that change nothing. -/
import Derived.Test.YtoakchnegkmepaaM5
set_option linter.unusedVariables false
set_option linter.unusedSimpArgs false
namespace Go.Pv
section
variable {P : Program} {γ : List Nat} {ω : Own} {w : World} {nt : Nat} {st : St} {a : Act} {K : Ct → Prop}

theorem szOf_ne {T : TypeId} (h : szOf P T ≠ 0) : ∃ ti, tiOf P T = some ti ∧ ti.size = szOf P T := by
  unfold szOf at h ⊢
  cases ht : tiOf P T with
  | none => rw [ht] at h; simp at h
  | some ti => exact ⟨ti, rfl, rfl⟩

theorem field_desc {T : TypeId} {f o : Nat} {fT : TypeId} (h : fieldOf P T f = some (o, fT)) : ∃ as : Array Field, P.underlying T = some (.struct as) ∧ ∃ fd, as[f]? = some fd ∧ fd.offset = o ∧ fd.type = fT := by
  unfold fieldOf at h
  split at h
  · rename_i fs hfs
    obtain ⟨d, hd, hk⟩ := und_of_kd hfs (by simp)
    obtain ⟨as, rfl, rfl⟩ := tk_strct hk
    rw [List.getElem?_map] at h
    cases ha : as.toList[f]? with
    | none => rw [ha] at h; simp at h
    | some fd =>
      rw [ha] at h; simp at h
      exact ⟨as, hd, fd, by simpa using ha, h.1, h.2⟩
  · exact absurd h (by simp)

theorem run_fieldAt {T : TypeId} {f o : Nat} {fT : TypeId} (h : fieldOf P T f = some (o, fT)) (hs : szOf P fT ≠ 0) (blk off : Nat) :
    (Instr.fieldAt T (.pointer (some ⟨blk, off, none⟩)) f).run P w = .ok (.pointer (some ⟨blk, off + o, none⟩)) w := by
  obtain ⟨as, hu, fd, hf, ho, hT⟩ := field_desc h
  obtain ⟨ti, hti, hsz⟩ := szOf_ne hs
  subst hT
  have hne : ti.size ≠ 0 := by rw [hsz]; exact hs
  simp [Instr.fieldAt, run_underlying hu, hf, Instr.sureAddr, fieldPlace, run_sizeT (ty_of hti), hne, Addr.add_lit, ho]

theorem fa_ok (h : Rel γ ω w nt st a) {T : TypeId} {x : Operand} {f : Nat} (hx : faP P st T x f K) : Gives P γ ω w st a.tmps (Instr.fieldAt T (a.eval x) f) K := by
  unfold faP at hx
  split at hx
  · rename_i o fT hf
    obtain ⟨hs, hx⟩ := hx
    cases x with
    | tmp t =>
      simp only at hx
      split at hx
      · rename_i cs off hc
        have hr := slot_rep h t hc
        generalize a.eval (.tmp t) = v at hr ⊢
        cases hr with
        | cptr _ _ blk o' us hω hlt hcell hrep =>
          refine .sh (m := .cptr cs (off + o)) (run_fieldAt hf hs blk (o' + off)) ?_ hx
          rw [Nat.add_assoc]
          exact .cptr cs (off + o) blk o' us hω hlt hcell hrep
      · rename_i k off hc
        have hr := slot_rep h t hc
        generalize a.eval (.tmp t) = v at hr ⊢
        cases hr with
        | ptr _ _ blk hb => exact .sh (run_fieldAt hf hs blk off) (.ptr k (off + o) blk hb) hx
      · rename_i p i off hc
        have hr := slot_rep h t hc
        generalize a.eval (.tmp t) = v at hr ⊢
        obtain ⟨sz, es, u, blk, h1, h2, h3, h4, rfl⟩ := hr
        refine ⟨.eadr p i (off + o), _, run_fieldAt hf hs blk (i * sz + off), fun _ => ⟨sz, es, u, blk, h1, h2, h3, h4, by rw [Nat.add_assoc]⟩, hx⟩
      · exact hx.elim
    | const v => simp at hx
    | func f => simp at hx
    | global g => simp at hx
  · exact hx.elim

/-- The cells of a value that is held by value. -/
theorem cut_part {T : TypeId} {ti : TI} (hT : Ty P T ti) {cs : List MV} {off : Nat} {K : MV → Prop} (h : cutC ti cs off K) (us : List Value) (hl : us.length = cs.length)
    (h1 : ∀ u ∈ us, u.oneCell' = true) (hr : ∀ (i : Nat) (c : MV) (v : Value), cs[i]? = some c → us[i]? = some v → Rep γ ω w c v) :
    ∃ m v, (part T us.toArray off).run P w = .ok v w ∧ Rep γ ω w m v ∧ K m := by
  unfold cutC at h
  split at h
  · rename_i hag
    obtain ⟨hle, h⟩ := h
    refine ⟨_, .agg (us.toArray.extract off (off + ti.size)), by simp [part, run_isAggT hT, hag, run_sizeT hT], ?_, h⟩
    have e : us.toArray.extract off (off + ti.size) = ((us.drop off).take ti.size).toArray := by
      simp [List.extract_eq_take_drop]
    rw [e]
    refine .agg _ _ (by simp; omega) ?_ ?_
    · intro i c v hc1 hv1
      rw [List.getElem?_take] at hc1 hv1
      split at hc1
      · rename_i hlt
        rw [if_pos hlt, List.getElem?_drop] at hv1
        rw [List.getElem?_drop] at hc1
        exact hr _ c v hc1 hv1
      · simp at hc1
    · intro v hv
      exact h1 v (List.mem_of_mem_drop (List.mem_of_mem_take hv))
  · rename_i hag
    have hag' : aggKd ti.kd = false := by simpa using hag
    split at h
    · rename_i c hcc
      have hlt : off < us.length := by rw [hl]; exact (List.getElem?_eq_some_iff.1 hcc).1
      refine ⟨c, us[off], ?_, hr off c _ hcc (List.getElem?_eq_getElem hlt), h⟩
      simp [part, run_isAggT hT, hag', List.getElem?_eq_getElem hlt]
    · exact h.elim

theorem field_ok (h : Rel γ ω w nt st a) {T : TypeId} {x : Operand} {f : Nat} (hx : fieldP P st T x f (fun m => K (.sh m))) : Gives P γ ω w st a.tmps (Instr.field T (a.eval x) f) K := by
  unfold fieldP at hx
  split at hx
  · rename_i o fT hf
    split at hx
    · rename_i ti hti
      split at hx
      · rename_i cs hcs
        have hr := (h.val hcs).agg
        generalize a.eval x = v at hr ⊢
        cases hr with
        | agg _ us hl hrep h1 =>
          obtain ⟨m, v, r1, r2, r3⟩ := cut_part (γ := γ) (ω := ω) (ty_of hti) hx us hl h1 hrep
          obtain ⟨as, hu, fd, hfd, ho, hT⟩ := field_desc hf
          subst hT; subst ho
          refine .sh (v := v) ?_ r2 r3
          have hag : ∀ xs : Array Value, (asAgg (.agg xs)).run P w = .ok xs w := fun xs => by simp [asAgg]
          simp [Instr.field, run_underlying hu, hfd, hag, r1]
      · exact hx.elim
    · exact hx.elim
  · exact hx.elim

theorem run_asIntOf {k : IntKind} {n : Int} : (asIntOf (.int k n)).run P w = .ok (k, n) w := by simp [asIntOf]

theorem own_some {o : Owner} {sz : Nat} {es : List (List MV)} {v : Value} (h : OwnRep γ ω w o sz (.list es) v) (hl : 0 < es.length) : ∃ blk cap, v.ownBlock = some blk ∧ v = .slice (some ⟨blk, 0, none⟩) es.length cap := by
  cases h with
  | list _ _ e xs hr hc ho =>
    rcases hr.2 with ⟨_, h0⟩ | ⟨g, cap, cur, rfl, _⟩
    · omega
    · exact ⟨g, cap, rfl, rfl⟩

theorem ia_ok (h : Rel γ ω w nt st a) {T : TypeId} {x i : Operand} (hx : iaP P st T x i K) : Gives P γ ω w st a.tmps (Instr.indexAt T (a.eval x) (a.eval i)) K := by
  unfold iaP at hx
  split at hx
  · rename_i eT hk
    obtain ⟨d, hd, hkd⟩ := und_of_kd hk (by simp)
    have := tk_slice hkd; subst this
    split at hx
    · rename_i k n hn
      obtain ⟨h0, hz, hx⟩ := hx
      have ei := (h.val hn).int
      have key : ∀ (blk o len cap : Nat), n < (len : Int) → szOf P eT ≠ 0 → (Instr.indexAt T (.slice (some ⟨blk, o, none⟩) len cap) (a.eval i)).run P w = .ok (.pointer (some ⟨blk, o + n.toNat * szOf P eT, none⟩)) w := by
        intro blk o len cap hlt hs
        obtain ⟨ti, hti, hsz⟩ := szOf_ne hs
        rw [ei]
        have hc : (0 ≤ n ∧ n < (len : Int)) := ⟨h0, hlt⟩
        simp [Instr.indexAt, run_asIntOf, run_underlying hd, hc, run_sizeT (ty_of hti), Addr.add_lit, hsz]
      cases x with
      | tmp t =>
        simp only at hx
        split at hx
        · rename_i es hc
          obtain ⟨e, he, hl, hx⟩ := hx
          have hr := slot_rep h t hc
          generalize a.eval (.tmp t) = v at hr ⊢
          have hlt : n.toNat < es.length := (List.getElem?_eq_some_iff.1 he).1
          cases hr with
          | list _ sz blk o cap us hcap hω hltb hsz hcell hrep =>
            have hsze := hsz e (List.mem_of_getElem? he)
            refine .sh (m := .cptr e 0) (key blk o es.length cap (by omega) hz) ?_ hx
            rw [show o + n.toNat * szOf P eT = o + n.toNat * szOf P eT + 0 from rfl]
            refine .cptr e 0 blk (o + n.toNat * szOf P eT) (us n.toNat) hω hltb ?_ (fun j c hj => hrep _ e he j c hj)
            intro j c hj
            have := hcell _ e he j c hj
            rw [← hl, hsze, Nat.add_assoc]; exact this
          | list0 A cap => simp at hlt
        · rename_i p hc
          have hr := slot_rep h t hc
          generalize a.eval (.tmp t) = v at hr ⊢
          obtain ⟨⟨sz0, m0, h1⟩, h2⟩ := hr
          simp only [h1] at hx
          split at hx
          · rename_i sz es heq
            injection heq with e1 e2; subst e1; subst e2
            obtain ⟨hlt, hs, hx⟩ := hx
            obtain ⟨blk, cap, hvb, rfl⟩ := own_some (cur_own h h1 h2) (by omega)
            refine ⟨.eadr p n.toNat 0, _, key blk 0 es.length cap (by omega) hz, fun _ => ⟨sz0, es, _, blk, h1, hlt, h2, hvb, by rw [hs]; simp⟩, hx⟩
          · exact hx.elim
        · rename_i sz es hc
          have hr := slot_rep h t hc
          obtain ⟨hlt, hs, hx⟩ := hx
          obtain ⟨blk, cap, hvb, hve⟩ := own_some hr (by omega)
          refine ⟨.eadr (.slot t) n.toNat 0, .pointer (some ⟨blk, 0 + n.toNat * szOf P eT, none⟩), ?_, fun _ => ⟨sz, es, a.eval (.tmp t), blk, hc, hlt, rfl, hvb, by rw [hs]; simp⟩, hx⟩
          rw [hve]
          exact key blk 0 es.length cap (by omega) hz
        · exact hx.elim
      | const v => simp at hx
      | func f => simp at hx
      | global g => simp at hx
    · exact hx.elim
  · exact hx.elim

end
end Go.Pv
