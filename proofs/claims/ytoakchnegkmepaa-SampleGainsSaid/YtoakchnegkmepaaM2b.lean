/- A library of this session: structs are compared. -/
import Derived.Test.YtoakchnegkmepaaM2
import Derived.Laws.StructEq
set_option linter.unusedVariables false
set_option linter.unusedSimpArgs false
namespace Go.Pv

def leaves (f : TypeId → Option (List TK)) (P : Program) : List Field → Nat → Option (List TK)
  | [], _ => some []
  | x :: r, o => if x.name = "_" ∨ x.offset ≠ o then none else match f x.type, tiOf P x.type with
    | some n, some ti => if ti.size = n.length then (match leaves f P r (o + n.length) with
        | some m => some (n ++ m)
        | none => none) else none
    | _, _ => none

/-- The cells of a type, all of which can be compared one by one. -/
def eqLeaf (P : Program) : Nat → TypeId → Option (List TK)
  | 0, _ => none
  | d + 1, T => match P.underlying T with
    | some .bool => some [.bool]
    | some (.int k) => some [.int k]
    | some .string => some [.str]
    | some (.struct fs) => if P.stoodInHeld T = true then none else leaves (eqLeaf P d) P fs.toList 0
    | _ => none

/-- The cells of a type that is compared cell by cell. -/
def eqTy (P : Program) (T : TypeId) : Option (List TK) := if P.eqGuardType P.depth T = true then none else match tiOf P T, eqLeaf P 20 T with
  | some ti, some l => if aggKd ti.kd = true ∧ ti.size = l.length then some l else none
  | _, _ => none

def eq1 : TK → MV → MV → Option Bool
  | .bool, .bool a, .bool b => some (a == b)
  | .int _, .int k a, .int k' b => if k = k' then some (decide (a = b)) else none
  | .str, .str a, .str b => some (decide (a = b))
  | _, _, _ => none

def eqCells : List TK → List MV → List MV → Option Bool
  | [], [], [] => some true
  | t :: q, x :: r, y :: s => match eq1 t x y, eqCells q r s with
    | some a, some b => some (a && b)
    | _, _ => none
  | _, _, _ => none

theorem eqCells_len : ∀ {ts : List TK} {xs ys : List MV} {b : Bool}, eqCells ts xs ys = some b → xs.length = ts.length ∧ ys.length = ts.length
  | [], [], [], b, h => by simp
  | [], [], _ :: _, b, h => by simp [eqCells] at h
  | [], _ :: _, _, b, h => by simp [eqCells] at h
  | _ :: _, [], _, b, h => by simp [eqCells] at h
  | _ :: _, _ :: _, [], b, h => by simp [eqCells] at h
  | t :: q, x :: r, y :: s, b, h => by
    simp only [eqCells] at h
    cases h2 : eqCells q r s with
    | none => rw [h2] at h; cases eq1 t x y <;> simp at h
    | some c => have := eqCells_len h2; simp; exact this

theorem eqCells_split : ∀ (ts us : List TK) (xs ys : List MV) (b : Bool), eqCells (ts ++ us) xs ys = some b → ∃ b1 b2, eqCells ts (xs.take ts.length) (ys.take ts.length) = some b1 ∧ eqCells us (xs.drop ts.length) (ys.drop ts.length) = some b2 ∧ b = (b1 && b2)
  | [], us, xs, ys, b, h => ⟨true, b, by simp [eqCells], by simpa using h, by simp⟩
  | t :: q, us, [], ys, b, h => by simp [eqCells] at h
  | t :: q, us, x :: r, [], b, h => by simp [eqCells] at h
  | t :: q, us, x :: r, y :: s, b, h => by
    simp only [List.cons_append, eqCells] at h
    cases h1 : eq1 t x y with
    | none => rw [h1] at h; simp at h
    | some a =>
      cases h2 : eqCells (q ++ us) r s with
      | none => rw [h1, h2] at h; simp at h
      | some c =>
        rw [h1, h2] at h
        simp only [Option.some.injEq] at h
        obtain ⟨b1, b2, e1, e2, e3⟩ := eqCells_split q us r s c h2
        refine ⟨a && b1, b2, ?_, e2, ?_⟩
        · simp only [List.length_cons, List.take_succ_cons, eqCells, h1, e1]
        · rw [← h, e3, Bool.and_assoc]

section
variable {P : Program} {γ : List Nat} {ω : Own} {w : World}

theorem bytes_eq0 (a b : ByteArray) : (a.toList == b.toList) = decide (a = b) := by
  rw [← beq_toListBytes]
  by_cases h : a = b
  · subst h; rw [beq_toListBytes]; simp
  · rw [decide_eq_false h]
    have : ¬ (a == b) = true := by
      rw [beq_toListBytes]
      simp only [beq_iff_eq]
      intro e
      rw [ByteArray.toList_eq, ByteArray.toList_eq] at e
      apply h
      obtain ⟨⟨x⟩⟩ := a
      obtain ⟨⟨y⟩⟩ := b
      simp at e
      rw [e]
    simpa using this

theorem isAgg_run {T : TypeId} {ti : TI} (h : Ty P T ti) : (isAgg T).run P w = .ok (aggKd ti.kd) w := by
  obtain ⟨d, hd, hk⟩ := h.und
  unfold isAgg
  simp only [Sem.run_bind, run_underlying hd, Result.andThen_ok]
  rw [← hk]
  cases d <;> rfl

theorem size_run {T : TypeId} {ti : TI} (h : Ty P T ti) : (sizeOf T).run P w = .ok ti.size w := by
  obtain ⟨i, z, h1, h2, _⟩ := h.info
  simp [sizeOf, typeInfo, h1, h2]

/-- A part of a struct. -/
theorem part_run {T : TypeId} {ti : TI} (h : Ty P T ti) (us : List Value) (o : Nat) (hl : o + ti.size ≤ us.length) (h1 : aggKd ti.kd = false → ti.size = 1) :
    (part T us.toArray o).run P w = .ok (if aggKd ti.kd = true then .agg ((us.drop o).take ti.size).toArray else ((us.drop o).take ti.size).getD 0 undef) w := by
  unfold part
  simp only [Sem.run_bind, isAgg_run h, Result.andThen_ok]
  cases hk : aggKd ti.kd with
  | true =>
    simp only [if_true, Sem.run_bind, size_run h, Result.andThen_ok, Sem.run_pure]
    congr 2
    simp [List.extract_eq_take_drop]
  | false =>
    have h2 := h1 hk
    have hlt : o < us.length := by omega
    simp [h2, hlt, List.getElem?_take]

/-- What two values of a type that is compared cell by cell come to. -/
def EqAt (P : Program) (d T : Nat) (ts : List TK) : Prop := ∀ (γ : List Nat) (ω : Own) (w : World) (xs ys : List MV) (us vs : List Value) (b : Bool), us.length = ts.length → vs.length = ts.length →
  (∀ (i : Nat) (c : MV) (v : Value), xs[i]? = some c → us[i]? = some v → Rep γ ω w c v) → (∀ (i : Nat) (c : MV) (v : Value), ys[i]? = some c → vs[i]? = some v → Rep γ ω w c v) → eqCells ts xs ys = some b →
  ∀ ti, tiOf P T = some ti → ti.size = ts.length → (Op.equalIn d T (if aggKd ti.kd = true then .agg us.toArray else us.getD 0 undef) (if aggKd ti.kd = true then .agg vs.toArray else vs.getD 0 undef)).run P w = .ok b w

theorem eqFields_run (D d : Nat) (ih : ∀ T ts, eqLeaf P d T = some ts → EqAt P (d + D) T ts ∧ (∀ ti, tiOf P T = some ti → aggKd ti.kd = false → ts.length = 1)) : ∀ (fs : List Field) (o : Nat) (ts : List TK), leaves (eqLeaf P d) P fs o = some ts → ∀ (xs ys : List MV) (us vs : List Value) (b : Bool), us.length = o + ts.length → vs.length = o + ts.length →
  (∀ (i : Nat) (c : MV) (v : Value), xs[i]? = some c → us[i]? = some v → Rep γ ω w c v) → (∀ (i : Nat) (c : MV) (v : Value), ys[i]? = some c → vs[i]? = some v → Rep γ ω w c v) → eqCells ts (xs.drop o) (ys.drop o) = some b →
  (Op.eqFields (d + D) us.toArray vs.toArray fs).run P w = .ok b w
  | [], o, ts, h, xs, ys, us, vs, b, h1, h2, hx, hy, hb => by
    simp only [leaves, Option.some.injEq] at h
    subst h
    have hl := eqCells_len hb
    have e1 : xs.drop o = [] := List.eq_nil_of_length_eq_zero (by simpa using hl.1)
    have e2 : ys.drop o = [] := List.eq_nil_of_length_eq_zero (by simpa using hl.2)
    rw [e1, e2] at hb
    simp only [eqCells, Option.some.injEq] at hb
    subst hb
    simp [Op.eqFields]
  | f :: r, o, ts, h, xs, ys, us, vs, b, h1, h2, hx, hy, hb => by
    unfold leaves at h
    split at h
    · exact absurd h (by simp)
    · rename_i hc
      have hname : f.name ≠ "_" := fun e => hc (.inl e)
      have hoff : f.offset = o := Classical.byContradiction fun e => hc (.inr e)
      split at h
      · rename_i m ti hm hti
        split at h
        · rename_i hsz
          split at h
          · rename_i q hq
            injection h with h; subst h
            obtain ⟨g1, g2⟩ := ih _ _ hm
            have hT := ty_of hti
            rw [List.length_append] at h1 h2
            obtain ⟨b1, b2, e1, e2, e3⟩ := eqCells_split m q _ _ b hb
            have hus : ((us.drop o).take m.length).length = m.length := by simp; omega
            have hvs : ((vs.drop o).take m.length).length = m.length := by simp; omega
            have sub : ∀ {xs : List MV} {us : List Value}, (∀ (i : Nat) (c : MV) (v : Value), xs[i]? = some c → us[i]? = some v → Rep γ ω w c v) → ∀ (i : Nat) (c : MV) (v : Value), ((xs.drop o).take m.length)[i]? = some c → ((us.drop o).take m.length)[i]? = some v → Rep γ ω w c v := by
              intro xs us hx i c v hc hv
              rw [List.getElem?_take] at hc hv
              split at hc
              · rename_i hi
                rw [if_pos hi] at hv
                rw [List.getElem?_drop] at hc hv
                exact hx _ _ _ hc hv
              · exact absurd hc (by simp)
            have hrun := g1 γ ω w _ _ _ _ b1 hus hvs (sub hx) (sub hy) e1 ti hti hsz
            have p1 := part_run (P := P) (w := w) hT us o (by omega) (fun hk => by rw [hsz]; exact g2 ti hti hk)
            have p2 := part_run (P := P) (w := w) hT vs o (by omega) (fun hk => by rw [hsz]; exact g2 ti hti hk)
            rw [hsz] at p1 p2
            simp only [Op.eqFields, ne_eq, hname, not_false_eq_true, if_true, Sem.run_bind, hoff, p1, p2, Result.andThen_ok, hrun, Sem.run_ite, Sem.run_pure]
            rw [List.drop_drop, List.drop_drop] at e2
            have hrest := eqFields_run D d ih r (o + m.length) q hq xs ys us vs b2 (by omega) (by omega) hx hy e2
            cases b1 with
            | false => simp [e3]
            | true => simp only [Bool.not_true, Bool.false_eq_true, if_false, e3, Bool.true_and]; exact hrest
          · exact absurd h (by simp)
        · exact absurd h (by simp)
      · exact absurd h (by simp)

theorem eqLeaf_run (D : Nat) : ∀ (d : Nat) (T : Nat) (ts : List TK), eqLeaf P d T = some ts → EqAt P (d + D) T ts ∧ (∀ ti, tiOf P T = some ti → aggKd ti.kd = false → ts.length = 1)
  | 0, T, n, h => by simp [eqLeaf] at h
  | d + 1, T, ts, h => by
    unfold eqLeaf at h
    have plain : ∀ {dd : TypeDesc} {t : TK}, P.underlying T = some dd → aggKd (tkOf dd) = false → ts = [t] → (∀ (m1 m2 : MV) (u v : Value) (γ : List Nat) (ω : Own) (w : World) (b : Bool), Rep γ ω w m1 u → Rep γ ω w m2 v → eq1 t m1 m2 = some b → (Op.equalIn (d + D + 1) T u v).run P w = .ok b w) →
        EqAt P (d + 1 + D) T ts ∧ (∀ ti, tiOf P T = some ti → aggKd ti.kd = false → ts.length = 1) := by
      intro dd t hd hk hn hrun
      subst hn
      refine ⟨fun γ ω w xs ys us vs b h1 h2 hx hy hb ti hti hsz => ?_, fun _ _ _ => rfl⟩
      obtain ⟨d2, hd2, hkd⟩ := (ty_of hti).und
      rw [hd] at hd2; injection hd2 with hd2; subst hd2
      rw [← hkd, hk]
      simp only [Bool.false_eq_true, if_false]
      obtain ⟨h3, h4⟩ := eqCells_len hb
      obtain ⟨x, rfl⟩ := List.length_eq_one_iff.1 h3
      obtain ⟨y, rfl⟩ := List.length_eq_one_iff.1 h4
      obtain ⟨u, rfl⟩ := List.length_eq_one_iff.1 h1
      obtain ⟨v, rfl⟩ := List.length_eq_one_iff.1 h2
      simp only [eqCells] at hb
      cases he : eq1 t x y with
      | none => rw [he] at hb; simp at hb
      | some b1 =>
        rw [he] at hb
        simp only [Bool.and_true, Option.some.injEq] at hb
        subst hb
        rw [show d + 1 + D = (d + D) + 1 from by omega]
        exact hrun x y u v γ ω w b1 (hx 0 x u rfl rfl) (hy 0 y v rfl rfl) he
    split at h
    · rename_i hd
      injection h with h
      refine plain hd rfl h.symm (fun m1 m2 u v γ ω w b r1 r2 he => ?_)
      cases r1 <;> cases r2 <;> simp [eq1] at he
      subst he
      exact run_equalIn_bool' w _ T _ _ hd
    · rename_i k hd
      injection h with h
      refine plain hd rfl h.symm (fun m1 m2 u v γ ω w b r1 r2 he => ?_)
      cases r1 <;> cases r2 <;> simp [eq1] at he
      obtain ⟨h1, h2⟩ := he
      subst h1; subst h2
      rw [run_equalIn_int w _ T _ _ _ _ hd]
      simp [BEq.beq]
    · rename_i hd
      injection h with h
      refine plain hd rfl h.symm (fun m1 m2 u v γ ω w b r1 r2 he => ?_)
      cases r1 <;> cases r2 <;> simp [eq1] at he
      subst he
      rw [run_equalIn_string w _ T _ _ hd, bytes_eq0]
    · rename_i fs hd
      split at h
      · exact absurd h (by simp)
      · rename_i hst
        refine ⟨fun γ ω w xs ys us vs b h1 h2 hx hy hb ti hti hsz => ?_, fun ti hti hk => ?_⟩
        · obtain ⟨d2, hd2, hkd⟩ := (ty_of hti).und
          rw [hd] at hd2; injection hd2 with hd2; subst hd2
          have hk : aggKd ti.kd = true := by rw [← hkd]; rfl
          rw [hk]
          simp only [if_true]
          have hf : P.fieldsOf T = fs := by simp [Program.fieldsOf, hd]
          rw [show d + 1 + D = (d + D) + 1 from by omega, run_equalIn_struct w (d + D) T us.toArray vs.toArray (by rw [hf]; exact hd) (by simpa using hst), hf]
          exact eqFields_run D d (fun T n h => eqLeaf_run D d T n h) fs.toList 0 ts h xs ys us vs b (by omega) (by omega) hx hy (by simpa using hb)
        · obtain ⟨d2, hd2, hkd⟩ := (ty_of hti).und
          rw [hd] at hd2; injection hd2 with hd2; subst hd2
          rw [← hkd] at hk
          exact absurd hk (by simp [tkOf, aggKd])
    · exact absurd h (by simp)

/-- Two structs are compared. -/
theorem eqTy_run {T : TypeId} {ts : List TK} (h : eqTy P T = some ts) {xs ys : List MV} {u v : Value} (hu : Rep γ ω w (.agg xs) u) (hv : Rep γ ω w (.agg ys) v) {b : Bool} (hb : eqCells ts xs ys = some b) (x y : Operand) :
    (do eqGuard .eql T x y u v; binOp .eql T u v : Sem Value).run P w = .ok (.bool b) w ∧ (do eqGuard .neq T x y u v; binOp .neq T u v : Sem Value).run P w = .ok (.bool (!b)) w := by
  unfold eqTy at h
  split at h
  · exact absurd h (by simp)
  · rename_i hg
    split at h
    · rename_i ti l hti hl
      split at h
      · rename_i hc
        injection h with h; subst h
        obtain ⟨D, hD⟩ : ∃ D, 10000 = 20 + D := ⟨9980, rfl⟩
        obtain ⟨h1, _⟩ := eqLeaf_run D 20 T l hl
        obtain ⟨e1, e2⟩ := eqCells_len hb
        cases hu with
        | agg _ us hlu hru _ =>
          cases hv with
          | agg _ vs hlv hrv _ =>
            have := h1 γ ω w xs ys us vs b (by omega) (by omega) hru hrv hb ti hti hc.2
            rw [hc.1] at this
            simp only [if_true] at this
            have hg2 : P.eqGuardType P.depth T = false := by simpa using hg
            refine ⟨?_, ?_⟩
            · simp only [Sem.run_bind, run_eqGuard_agg w .eql T x y _ _ hg2, Result.andThen_ok, run_eql_struct w T]
              rw [hD, this]; rfl
            · simp only [Sem.run_bind, run_eqGuard_agg w .neq T x y _ _ hg2, Result.andThen_ok, run_neq_struct w T]
              rw [hD, this]; rfl
      · exact absurd h (by simp)
    · exact absurd h (by simp)
end
end Go.Pv
