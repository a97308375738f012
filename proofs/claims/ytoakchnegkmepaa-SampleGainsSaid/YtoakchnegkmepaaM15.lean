/- A library of this session: structs, boxes, stores. -/
import Derived.Test.YtoakchnegkmepaaM14
set_option linter.unusedVariables false
set_option linter.unusedSimpArgs false
namespace Go.Pv
section
variable {P : Program} {γ : List Nat} {ω : Own} {w : World} {nt : Nat} {st : St} {a : Act}

theorem fold_set (off : Nat) : ∀ (ys : List Value) (k : Nat) (pre rest : List Value), pre.length = off + k → ys.length ≤ rest.length →
    (ys.zipIdx k).foldl (fun cs (x : Value × Nat) => cs.setIfInBounds (off + x.2) x.1) (pre ++ rest).toArray = (pre ++ ys ++ rest.drop ys.length).toArray
  | [], k, pre, rest, _, _ => by simp
  | y :: ys, k, pre, z :: rest, hp, hr => by
    simp only [List.zipIdx_cons, List.foldl_cons]
    have e : (pre ++ z :: rest).toArray.setIfInBounds (off + k) y = ((pre ++ [y]) ++ rest).toArray := by
      rw [← hp]
      simp
    rw [e, fold_set off ys (k + 1) (pre ++ [y]) rest (by simp [hp]; omega) (by simpa using hr)]
    simp
  | y :: ys, k, pre, [], hp, hr => by simp at hr

/-- Cells of a value, pure and in the model, one for one. -/
def CellsR (γ : List Nat) (ω : Own) (w : World) (cs : List MV) (us : List Value) : Prop :=
  us.length = cs.length ∧ (∀ u ∈ us, u.oneCell' = true) ∧ ∀ (i : Nat) (c : MV) (u : Value), cs[i]? = some c → us[i]? = some u → Rep γ ω w c u

theorem CellsR.splice {cs ds : List MV} {us vs : List Value} (h : CellsR γ ω w cs us) (k : CellsR γ ω w ds vs) (o : Nat) (ho : o + ds.length ≤ cs.length) : CellsR γ ω w (cs.take o ++ ds ++ cs.drop (o + ds.length)) (us.take o ++ vs ++ us.drop (o + vs.length)) := by
  obtain ⟨h1, h2, h3⟩ := h
  obtain ⟨k1, k2, k3⟩ := k
  refine ⟨by simp [h1, k1], ?_, ?_⟩
  · intro u hu
    rcases List.mem_append.1 hu with hu | hu
    · rcases List.mem_append.1 hu with hu | hu
      · exact h2 u (List.mem_of_mem_take hu)
      · exact k2 u hu
    · exact h2 u (List.mem_of_mem_drop hu)
  · intro i c u hc hu
    have lo : (cs.take o).length = o := by simp; omega
    have lu : (us.take o).length = o := by simp; omega
    rcases Nat.lt_or_ge i o with hi | hi
    · rw [List.append_assoc, List.getElem?_append_left (by omega), List.getElem?_take, if_pos hi] at hc hu
      exact h3 i c u hc hu
    · rw [List.append_assoc, List.getElem?_append_right (by omega), lo] at hc
      rw [List.append_assoc, List.getElem?_append_right (by omega), lu] at hu
      rcases Nat.lt_or_ge (i - o) ds.length with hj | hj
      · rw [List.getElem?_append_left hj] at hc
        rw [List.getElem?_append_left (by omega)] at hu
        exact k3 _ c u hc hu
      · rw [List.getElem?_append_right hj, List.getElem?_drop] at hc
        rw [List.getElem?_append_right (by omega), List.getElem?_drop] at hu
        refine h3 _ c u hc ?_
        rw [k1] at hu; exact hu

theorem fillS_ok {T : TypeId} {as : Array Field} (hu : P.underlying T = some (.struct as)) (places : Array (Nat × Nat)) (hpl : ∀ (i o : Nat) (fT : TypeId), fieldOf P T i = some (o, fT) → szOf P fT ≠ 0 → places[i]? = some (o, szOf P fT)) :
    ∀ {ps : List (Nat × MV)} {vs : List (Nat × Value)} {cs out : List MV} {us : List Value}, fillS P T ps cs = some out → vs.length = ps.length →
    (∀ (q : Nat) (x : Nat × MV) (y : Nat × Value), ps[q]? = some x → vs[q]? = some y → x.1 = y.1 ∧ (cellsM x.2).length ≠ 0 ∧ ∃ xs : List Value, y.2.cells = xs.toArray ∧ CellsR γ ω w (cellsM x.2) xs) → CellsR γ ω w cs us →
    ∃ us', Instr.fill (places[·]?) us.toArray vs = some us'.toArray ∧ CellsR γ ω w out us'
  | [], vs, cs, out, us, h, hl, hv, hc => by
    have : vs = [] := List.eq_nil_of_length_eq_zero (by simpa using hl)
    subst this
    simp [fillS] at h; subst h
    exact ⟨us, rfl, hc⟩
  | (i, m) :: r, (j, v) :: vs, cs, out, us, h, hl, hv, hc => by
    unfold fillS at h
    split at h
    · rename_i o fT hf
      split at h
      · rename_i hcond
        obtain ⟨h1, h2⟩ := hcond
        obtain ⟨e, hne, xs, g1, g2⟩ := hv 0 (i, m) (j, v) rfl rfl
        simp only at e; subst e
        have hp := hpl i o fT hf (by rw [← h1]; exact hne)
        have hsz : v.cells.size = szOf P fT := by rw [g1, ← h1]; simpa using g2.1
        have hul : us.length = cs.length := hc.1
        have hxl : xs.length = (cellsM m).length := g2.1
        simp only [Instr.fill, hp]
        rw [if_neg (by rw [hsz]; simp; omega)]
        have hfold : v.cells.zipIdx.foldl (fun cs (x : Value × Nat) => cs.setIfInBounds (o + x.2) x.1) us.toArray = (us.take o ++ xs ++ us.drop (o + xs.length)).toArray := by
          rw [g1]
          have := fold_set o xs 0 (us.take o) (us.drop o) (by simp; omega) (by simp; omega)
          rw [List.take_append_drop, List.drop_drop] at this
          simp only [Array.foldl_toList, ← Array.foldl_toList, Array.toList_zipIdx]
          exact this
        rw [hfold]
        exact fillS_ok hu places hpl h (by simpa using hl) (fun q x y hx hy => hv (q + 1) x y (by simpa using hx) (by simpa using hy)) (hc.splice g2 o h2)
      · exact absurd h (by simp)
    · exact absurd h (by simp)
  | (i, m) :: r, [], cs, out, us, h, hl, hv, hc => by simp at hl

theorem run_places {as : Array Field} (hall : ∀ f ∈ as, ∃ ti, tiOf P f.type = some ti) : (as.mapM fun f => do pure (f.offset, ← sizeOf f.type) : Sem (Array (Nat × Nat))).run P w = .ok (as.map fun f => (f.offset, szOf P f.type)) w := by
  have key : ∀ l : List Field, (∀ f ∈ l, ∃ ti, tiOf P f.type = some ti) → (l.mapM fun f => (Prod.mk f.offset <$> sizeOf f.type : Sem (Nat × Nat))).run P w = .ok (l.map fun f => (f.offset, szOf P f.type)) w := by
    intro l
    induction l with
    | nil => intro _; simp
    | cons f r ih =>
      intro h
      obtain ⟨ti, hti⟩ := h f (by simp)
      have e : szOf P f.type = ti.size := by simp [szOf, hti]
      rw [List.mapM_cons]
      simp only [Sem.run_bind, Sem.run_map, run_sizeT (ty_of hti), Result.andThen_ok, ih (fun g hg => h g (by simp [hg])), Sem.run_pure]
      simp [e]
  have k2 := key as.toList (fun f hf => hall f (by simpa using hf))
  have e : (as.mapM fun f => do pure (f.offset, ← sizeOf f.type) : Sem (Array (Nat × Nat))) = List.toArray <$> (as.toList.mapM fun f => (Prod.mk f.offset <$> sizeOf f.type : Sem (Nat × Nat))) := by
    rw [← Array.mapM_eq_mapM_toList]
    simp
  rw [e]
  simp only [Sem.run_map, k2, Result.andThen_ok]
  congr 1
  exact Array.ext' (by simp)

def CtOk (m : MV) : Prop := (∀ vs, m ≠ .tup vs) ∧ (cellsM m).length ≠ 0

theorem bld_ok (h : Rel γ ω w nt st a) {d : Option Tmp} (hd : ∀ t, d = some t → t < nt) {T : TypeId} {parts : Array (Nat × Operand)} {K : St → Prop} (hx : bldP P st d T parts.toList K) :
    ∃ v, (Instr.build T (parts.map fun (i, x) => (i, a.eval x))).run P w = .ok v w ∧ ∃ ω' st', Chg NotOuter γ ω w γ ω' w ∧ Rel γ ω' w nt st' (a.put d v) ∧ K st' := by
  unfold bldP at hx
  split at hx
  · rename_i ti hti
    have hT := ty_of hti
    split at hx
    · rename_i ms hms
      split at hx
      · rename_i cs hcs
        obtain ⟨hm, ht, hK⟩ := hx
        obtain ⟨ω1, hc1, hR1⟩ := h.retOs (parts.toList.map (·.2))
        obtain ⟨xss, hxl, hxs⟩ := parts_cells hR1 hms (fun m hmm => (hm m hmm).1)
        obtain ⟨hml, _⟩ := shvs_rep hR1 hms
        have hpl : parts.toList.length = ms.length := by simpa using hml
        obtain ⟨z, hz, hz1, hz2⟩ := run_zeroT (P := P) (w := w) hT
        obtain ⟨z1, z2, z3⟩ := zerosOf_rep (γ := γ) (ω := ω1) (w := w) hz1
        have hzc : CellsR γ ω1 w ti.zero z.cells.toList := ⟨z1, z2, z3⟩
        -- the type is a struct's
        have hkd : ∃ fs, kdOf P T = .strct fs ∧ ∀ f ∈ fs, (tiOf P f.2).isSome = true := by
          unfold tysOk at ht
          split at ht
          · rename_i fs hfs; exact ⟨fs, hfs, by simpa using ht⟩
          · exact absurd ht (by simp)
        obtain ⟨fs, hfs, hft⟩ := hkd
        obtain ⟨dd, hdd, hkk⟩ := und_of_kd hfs (by simp)
        obtain ⟨as, rfl, rfl⟩ := tk_strct hkk
        have hall : ∀ f ∈ as, ∃ ti, tiOf P f.type = some ti := by
          intro f hf
          have := hft (f.offset, f.type) (by simp; exact ⟨f, hf, rfl, rfl⟩)
          exact Option.isSome_iff_exists.1 this
        have hplc : ∀ (i o : Nat) (fT : TypeId), fieldOf P T i = some (o, fT) → szOf P fT ≠ 0 → (as.map fun f => (f.offset, szOf P f.type))[i]? = some (o, szOf P fT) := by
          intro i o fT hf _
          obtain ⟨as', hu', fd, g1, g2, g3⟩ := field_desc hf
          rw [hdd] at hu'; injection hu' with hu'; injection hu' with hu'; subst hu'
          rw [Array.getElem?_map, g1]; simp [g2, g3]
        obtain ⟨us', hfill, hus⟩ := fillS_ok (γ := γ) (ω := ω1) (w := w) hdd _ hplc (vs := (parts.toList.map fun x => (x.1, a.eval x.2))) hcs (by simp [hpl]) (fun q x y hx hy => by
          rw [List.getElem?_map] at hy
          cases hq : parts.toList[q]? with
          | none => rw [hq] at hy; simp at hy
          | some p =>
            rw [hq] at hy; simp at hy; subst hy
            have hql : q < ms.length := by rw [← hpl]; exact (List.getElem?_eq_some_iff.1 hq).1
            have hmq : ms[q]? = some ms[q] := List.getElem?_eq_getElem hql
            have hz' : ((parts.toList.map (·.1)).zip ms)[q]? = some (p.1, ms[q]) := zip_get (by rw [List.getElem?_map, hq]; rfl) hmq
            rw [hz'] at hx; injection hx with hx; subst hx
            have hxq : xss[q]? = some xss[q] := List.getElem?_eq_getElem (by omega)
            obtain ⟨c1, c2, c3, c4⟩ := hxs q ms[q] p.2 xss[q] hmq (by rw [List.getElem?_map, hq]; rfl) hxq
            exact ⟨rfl, (hm _ (List.mem_of_getElem? hmq)).2, xss[q], c1, c2, c3, c4⟩) hzc
        refine ⟨.agg us'.toArray, ?_, ω1, putO (retOs st (parts.toList.map (·.2))) d (.sh (.agg cs)), hc1, hR1.putO hd (fun t ht => ?_), hK⟩
        · have e4 : (parts.map fun (i, x) => (i, a.eval x)).toList = parts.toList.map fun x => (x.1, a.eval x.2) := by simp
          have ez : z.cells.toList.toArray = z.cells := by simp
          rw [ez] at hfill
          unfold Instr.build
          simp only [Sem.run_bind, hz, Result.andThen_ok, run_underlying hdd, run_places hall, e4, hfill]
          rfl
        · show Rep γ ω1 w (.agg cs) (.agg us'.toArray)
          exact .agg cs us' hus.1 hus.2.2 hus.2.1
      · exact hx.elim
    · exact hx.elim
  · exact hx.elim

end
end Go.Pv
