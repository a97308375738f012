/- The library of this work, H texts, part E: those functions are right. -/
import Derived.Test.YtlfbfhgoehndpaaGreatDoorHD
set_option linter.unusedVariables false
set_option linter.unusedSimpArgs false
namespace Go.Pv

structure Env.Ok (E : Env) (P : Program) : Prop where
  ty : ∀ T ti, lkN E.ty T = some ti → tiOf P T = some ti
  eq : ∀ T ts, lkN E.eq T = some ts → eqTy P T = some ts
  mx : P.follows .mixedOrders = true

section
variable {α : Type} {E : Env} {P : Program} {x : α}

theorem gd_some {p : Prop} [Decidable p] {o : Option α} (h : gd p o = some x) : p ∧ o = some x := by
  unfold gd at h; split at h
  · exact ⟨by assumption, h⟩
  · exact absurd h (by simp)
theorem sB_some {b : Bool} {o : Option α} (h : sB b o = some x) : b = true ∧ o = some x := by
  cases b with
  | true => exact ⟨rfl, h⟩
  | false => exact absurd h (by simp [sB, bot])
theorem sO_some {β : Type} {y : Option β} {K : β → Option α} (h : sO y K = some x) : ∃ b, y = some b ∧ K b = some x := by
  cases y with
  | some b => exact ⟨b, rfl, h⟩
  | none => exact absurd h (by simp [sO, bot])
theorem npG_some {l : List MV} {o : Option α} (h : npG l o = some x) : npL l = true ∧ o = some x := by
  unfold npG at h; split at h
  · exact ⟨by assumption, h⟩
  · exact absurd h (by simp)
theorem nilB_some {es : List (List MV)} {a b : Option α} (h : nilB es a b = some x) : b = some x ∧ (es = [] → a = some x) := by
  cases es with
  | nil =>
    change both a b = some x at h
    unfold both at h
    split at h
    · rename_i e; subst e; exact ⟨h, fun _ => h⟩
    · exact absurd h (by simp)
  | cons y r => exact ⟨h, fun q => by simp at q⟩
theorem stG_some {a b : ByteArray} {o : Option α} (h : stG a b o = some x) : a.size + b.size ≤ 9223372036854775807 ∧ o = some x := by
  unfold stG at h; split at h
  · exact ⟨by assumption, h⟩
  · exact absurd h (by simp)
theorem gL_some {n : Nat} {o : Option α} (h : gL n o = some x) : n ≤ 1000000000 ∧ o = some x := by
  unfold gL at h; split at h
  · exact ⟨by assumption, h⟩
  · exact absurd h (by simp)
theorem dI_some {k : IntKind} {m : MV} {K : Int → Option α} (h : dI k m K = some x) : ∃ n, m = .int k n ∧ K n = some x := by
  unfold dI at h; split at h
  · split at h
    · rename_i e; subst e; exact ⟨_, rfl, h⟩
    · exact absurd h (by simp)
  · exact absurd h (by simp)
theorem dB_some {m : MV} {K : Bool → Option α} (h : dB m K = some x) : ∃ n, m = .bool n ∧ K n = some x := by
  unfold dB at h; split at h
  · exact ⟨_, rfl, h⟩
  · exact absurd h (by simp)
theorem dS_some {m : MV} {K : ByteArray → Option α} (h : dS m K = some x) : ∃ n, m = .str n ∧ K n = some x := by
  unfold dS at h; split at h
  · exact ⟨_, rfl, h⟩
  · exact absurd h (by simp)
theorem dL_some {m : MV} {K : List (List MV) → Option α} (h : dL m K = some x) : ∃ n, (m = .list n ∨ (m = .nil ∧ n = [])) ∧ K n = some x := by
  unfold dL at h; split at h
  · exact ⟨_, .inl rfl, h⟩
  · exact ⟨_, .inr ⟨rfl, rfl⟩, h⟩
  · exact absurd h (by simp)
theorem dF_some {m : MV} {K : FuncId → List MV → Option α} (h : dF m K = some x) : ∃ f cs, m = .fn f cs ∧ K f cs = some x := by
  unfold dF at h; split at h
  · exact ⟨_, _, rfl, h⟩
  · exact absurd h (by simp)
theorem gK_some {m : List (MKey × MV)} {k : MKey} {o : Option α} (h : gK m k o = some x) : kOkM m k = true ∧ o = some x := by
  unfold gK at h; split at h
  · exact ⟨by assumption, h⟩
  · exact absurd h (by simp)
theorem mgE_some {m : List (MKey × MV)} {k : MKey} {z : MV} {K : Bool → MV → Option α} (h : mgE m k z K = some x) : (∃ v, mget m k = some v ∧ K true v = some x) ∨ (mget m k = none ∧ K false z = some x) := by
  unfold mgE at h; split at h
  · exact .inl ⟨_, by assumption, h⟩
  · exact .inr ⟨by assumption, h⟩

/-- A value that says the same, read another way: a nil slice as an empty list. -/
inductive Ev : MV → MV → Prop where
  | refl (m : MV) : Ev m m
  | nil : Ev .nil (.list [])
  | agg (cs ds : List MV) (hl : cs.length = ds.length) (h : ∀ (i : Nat) (c d : MV), cs[i]? = some c → ds[i]? = some d → Ev c d) : Ev (.agg cs) (.agg ds)
  | tup (cs ds : List MV) (hl : cs.length = ds.length) (h : ∀ (i : Nat) (c d : MV), cs[i]? = some c → ds[i]? = some d → Ev c d) : Ev (.tup cs) (.tup ds)
theorem Ev.rep {γ : List Value} {ω : Own} {w : World} {m m' : MV} (e : Ev m m') : ∀ {v : Value}, Rep γ ω w m v → Rep γ ω w m' v := by
  induction e with
  | refl m => intro v h; exact h
  | nil => intro v h; exact h.top
  | agg cs ds hl _ ih =>
    intro v h
    cases h with
    | agg _ vs hl2 hr h1 =>
      refine .agg ds vs (hl2.trans hl) (fun i c u hc hu => ?_) h1
      have hi : i < cs.length := by rw [hl]; exact (List.getElem?_eq_some_iff.1 hc).1
      exact ih i _ c (List.getElem?_eq_getElem hi) hc (hr i _ u (List.getElem?_eq_getElem hi) hu)
  | tup cs ds hl _ ih =>
    intro v h
    cases h with
    | tup _ vs hl2 hr =>
      refine .tup ds vs (hl2.trans hl) (fun i c u hc hu => ?_)
      have hi : i < cs.length := by rw [hl]; exact (List.getElem?_eq_some_iff.1 hc).1
      exact ih i _ c (List.getElem?_eq_getElem hi) hc (hr i _ u (List.getElem?_eq_getElem hi) hu)
theorem Ev.np {m m' : MV} (e : Ev m m') : Go.Pv.np m = true → Go.Pv.np m' = true := by
  induction e with
  | refl m => exact id
  | nil => intro _; rfl
  | agg cs ds hl _ ih | tup cs ds hl _ ih =>
    intro h
    simp only [Go.Pv.np] at h ⊢
    rw [npL_iff] at h ⊢
    intro d hd
    obtain ⟨i, hi⟩ := List.getElem?_of_mem hd
    have hlt : i < cs.length := by rw [hl]; exact (List.getElem?_eq_some_iff.1 hi).1
    exact ih i _ d (List.getElem?_eq_getElem hlt) hi (h _ (List.getElem_mem hlt))
theorem dA_some {m : MV} {K : List MV → Option α} (h : dA m K = some x) : ∃ n, m = .agg n ∧ K n = some x := by
  unfold dA at h; split at h
  · exact ⟨_, rfl, h⟩
  · exact absurd h (by simp)
theorem dM_some {m : MV} {K : List (MKey × MV) → Option α} (h : dM m K = some x) : ∃ n, m = .map n ∧ K n = some x := by
  unfold dM at h; split at h
  · exact ⟨_, rfl, h⟩
  · exact absurd h (by simp)
theorem unC_some {l : List MV} {K : MV → List MV → Option α} (h : unC l K = some x) : ∃ m r, l = m :: r ∧ K m r = some x := by
  unfold unC at h; split at h
  · exact ⟨_, _, rfl, h⟩
  · exact absurd h (by simp)
theorem unN_some {l : List MV} {o : Option α} (h : unN l o = some x) : l = [] ∧ o = some x := by
  unfold unN at h; split at h
  · exact ⟨rfl, h⟩
  · exact absurd h (by simp)
theorem cel_some {l : List MV} {i : Nat} {K : MV → Option α} (h : cel l i K = some x) : ∃ m, l[i]? = some m ∧ K m = some x := by
  unfold cel at h; split at h
  · rename_i e; exact ⟨_, e, h⟩
  · exact absurd h (by simp)
theorem rdN_some {l : List (List MV)} {i : Nat} {K : List MV → Option α} (h : rdN l i K = some x) : ∃ m, l[i]? = some m ∧ K m = some x := by
  unfold rdN at h; split at h
  · rename_i e; exact ⟨_, e, h⟩
  · exact absurd h (by simp)
theorem rd_some {l : List (List MV)} {i : Int} {K : List MV → Option α} (h : rd l i K = some x) : 0 ≤ i ∧ ∃ m, l[i.toNat]? = some m ∧ K m = some x := by
  unfold rd at h; split at h
  · refine ⟨by assumption, ?_⟩
    split at h
    · rename_i e; exact ⟨_, e, h⟩
    · exact absurd h (by simp)
  · exact absurd h (by simp)
theorem ixG_some {n : Nat} {i : Int} {o : Option α} (h : ixG n i o = some x) : 0 ≤ i ∧ i.toNat < n ∧ o = some x := by
  unfold ixG at h; split at h
  · rename_i e; exact ⟨e.1, e.2, h⟩
  · exact absurd h (by simp)
theorem beq_nat {a b : Nat} (h : Nat.beq a b = true) : a = b := Nat.eq_of_beq_eq_true h
theorem ble_nat {a b : Nat} (h : Nat.ble a b = true) : a ≤ b := Nat.le_of_ble_eq_true h

theorem dBs_some {b : Bs} {m : MV} {K : MV → Option α} (h : dBs b m K = some x) : ∃ m', Ev m m' ∧ K m' = some x := by
  unfold dBs at h
  split at h
  · obtain ⟨n, e, h'⟩ := dI_some h; subst e; exact ⟨_, .refl _, h'⟩
  · obtain ⟨n, e, h'⟩ := dB_some h; subst e; exact ⟨_, .refl _, h'⟩
  · obtain ⟨n, e, h'⟩ := dS_some h; subst e; exact ⟨_, .refl _, h'⟩
  · obtain ⟨n, e, h'⟩ := dL_some h
    rcases e with e | ⟨e, e2⟩
    · subst e; exact ⟨_, .refl _, h'⟩
    · subst e; subst e2; exact ⟨_, .nil, h'⟩
  · obtain ⟨n, e, h'⟩ := dM_some h; subst e; exact ⟨_, .refl _, h'⟩
  · exact ⟨_, .refl _, h⟩
  · unfold dSq at h
    split at h
    · exact ⟨_, .refl _, h⟩
    · exact absurd h (by simp)
  · split at h
    · obtain ⟨h1, h⟩ := sB_some h
      have := beq_nat h1; subst this
      exact ⟨_, .refl _, h⟩
    · exact absurd h (by simp)
  · split at h
    · obtain ⟨h1, h⟩ := sB_some h
      simp only [Bool.and_eq_true] at h1
      have := beq_nat h1.1; subst this
      have := beq_nat h1.2; subst this
      exact ⟨_, .refl _, h⟩
    · exact absurd h (by simp)
theorem dCs_some : ∀ {bs : List Bs} {cs : List MV} {K : List MV → Option α}, dCs bs cs K = some x → ∃ ds, cs.length = ds.length ∧ (∀ (i : Nat) (c d : MV), cs[i]? = some c → ds[i]? = some d → Ev c d) ∧ K ds = some x
  | [], cs, K, h => by
    obtain ⟨e, h'⟩ := unN_some h; subst e; exact ⟨[], rfl, by simp, h'⟩
  | b :: r, cs, K, h => by
    obtain ⟨m, q, e, h'⟩ := unC_some h
    subst e
    obtain ⟨m', e1, h2⟩ := dBs_some h'
    obtain ⟨ds, e2, e3, h3⟩ := dCs_some (K := fun l => K (m' :: l)) h2
    refine ⟨m' :: ds, by simp [e2], fun i c d hc hd => ?_, h3⟩
    cases i with
    | zero => simp at hc hd; subst hc; subst hd; exact e1
    | succ i => exact e3 i c d (by simpa using hc) (by simpa using hd)
theorem dK_some {ti : TI} {m : MV} {K : MV → Option α} (h : dK ti m K = some x) : ∃ m', Ev m m' ∧ K m' = some x := by
  unfold dK at h
  split at h
  · obtain ⟨n, e, h'⟩ := dI_some h; subst e; exact ⟨_, .refl _, h'⟩
  · obtain ⟨n, e, h'⟩ := dB_some h; subst e; exact ⟨_, .refl _, h'⟩
  · obtain ⟨n, e, h'⟩ := dS_some h; subst e; exact ⟨_, .refl _, h'⟩
  · obtain ⟨n, e, h'⟩ := dL_some h
    rcases e with e | ⟨e, e2⟩
    · subst e; exact ⟨_, .refl _, h'⟩
    · subst e; subst e2; exact ⟨_, .nil, h'⟩
  · obtain ⟨n, e, h'⟩ := dM_some h; subst e; exact ⟨_, .refl _, h'⟩
  · obtain ⟨f, cs, e, h'⟩ := dF_some h; subst e; exact ⟨_, .refl _, h'⟩
  · exact ⟨_, .refl _, h⟩
theorem dT_some {ti : TI} {m : MV} {K : MV → Option α} (h : dT ti m K = some x) : ∃ m', Ev m m' ∧ K m' = some x := by
  unfold dT at h
  split at h
  · obtain ⟨cs, e, h⟩ := dA_some h
    subst e
    obtain ⟨ds, e1, e2, h⟩ := dCs_some h
    exact ⟨_, .agg _ _ e1 e2, h⟩
  · exact dK_some h
theorem dN_some {ti : TI} {m : MV} {K : MV → Option α} (h : dN ti m K = some x) : np m = true ∧ K m = some x := by
  unfold dN at h
  split at h
  · obtain ⟨n, e, h'⟩ := dI_some h; subst e; exact ⟨rfl, h'⟩
  · obtain ⟨n, e, h'⟩ := dB_some h; subst e; exact ⟨rfl, h'⟩
  · obtain ⟨n, e, h'⟩ := dS_some h; subst e; exact ⟨rfl, h'⟩
  · split at h
    · exact ⟨rfl, h⟩
    · exact absurd h (by simp)
  · exact absurd h (by simp)
theorem offs_all : ∀ {foc : List (Nat × Nat × Nat)} {off : Nat}, offs foc off = true → ∀ f ∈ foc, f.2.1 ≠ off
  | [], off, h, f, hf => by simp at hf
  | (j, i, k) :: r, off, h, f, hf => by
    unfold offs at h
    split at h
    · exact absurd h (by simp)
    · rename_i hb
      rcases List.mem_cons.1 hf with rfl | hf
      · intro e; simp only at e; subst e; simp at hb
      · exact offs_all h f hf

theorem kdE_ok (hE : E.Ok P) {T : TypeId} {k : TK} (h : kdE E T = k) (hk : k ≠ .other) : kdOf P T = k := by
  unfold kdE at h
  unfold kdOf
  split at h
  · rename_i ti hti
    rw [hE.ty T ti hti]; exact h
  · exact absurd h.symm hk
theorem szE_ok (hE : E.Ok P) {T : TypeId} {s : Nat} (h : szE E T = s + 1) : szOf P T = s + 1 := by
  unfold szE at h
  unfold szOf
  split at h
  · rename_i ti hti
    rw [hE.ty T ti hti]; exact h
  · exact absurd h (by simp)
theorem fieldE_ok (hE : E.Ok P) {T : TypeId} {f : Nat} {y : Nat × TypeId} (h : fieldE E T f = some y) : fieldOf P T f = some y := by
  unfold fieldE at h
  unfold fieldOf
  split at h
  · rename_i fs hfs
    rw [kdE_ok hE hfs (by simp)]; exact h
  · exact absurd h (by simp)

section
variable {st : St}

theorem mov_fok {y : Operand} {K : MV → Option α} {Q : MV → Prop} (hQ : ∀ c c', Ev c c' → K c' = some x → Q c) (h : movF st y K = some x) : movP st y Q := by
  unfold movF at h
  unfold movP
  split at h
  · rename_i m hm; rw [hm]; exact hQ _ _ (.refl _) h
  · exact absurd h (by simp)

theorem un_fok {op : UnOp} {m : MV} {K : MV → Option α} {Q : MV → Prop} (hQ : ∀ c c', Ev c c' → K c' = some x → Q c) (h : unF op m K = some x) : unP op m Q := by
  unfold unF at h
  unfold unP
  split at h
  · exact hQ _ _ (.refl _) h
  · exact hQ _ _ (.refl _) h
  · exact hQ _ _ (.refl _) h
  · exact absurd h (by simp)

theorem conv_fok (hE : E.Ok P) {s d : TypeId} {m : MV} {K : MV → Option α} {Q : MV → Prop} (hQ : ∀ c c', Ev c c' → K c' = some x → Q c) (h : convF E s d m K = some x) : convP P s d m Q := by
  unfold convF at h
  split at h
  · exact absurd h (by simp)
  · rename_i hs
    have hso : kdOf P s ≠ .other := fun e => by
      have := kdE_ok hE (T := s) rfl hs
      rw [this] at e; exact hs e
    unfold convP
    split at h
    · rename_i k k' n hk
      rw [kdE_ok hE hk (by simp)]
      exact ⟨hso, hQ _ _ (.refl _) h⟩
    · rename_i k' n hk
      rw [kdE_ok hE hk (by simp)]
      exact ⟨hso, hQ _ _ (.refl _) h⟩
    · rename_i a hk
      rw [kdE_ok hE hk (by simp)]
      exact ⟨hso, hQ _ _ (.refl _) h⟩
    · exact absurd h (by simp)

theorem binInt_fok {op : BinOp} {k : IntKind} {a b : Int} {K : MV → Option α} {Q : MV → Prop} (hQ : ∀ c c', Ev c c' → K c' = some x → Q c) (hs : isShift op = false) (h : binIntF op k a b K = some x) : binInt op k a b Q := by
  cases op <;> first | exact hQ _ _ (.refl _) h | exact ⟨(gd_some h).1, hQ _ _ (.refl _) (gd_some h).2⟩ | exact absurd hs (by simp [isShift])

theorem binStr_fok {op : BinOp} {a b : ByteArray} {K : MV → Option α} {Q : MV → Prop} (hQ : ∀ c c', Ev c c' → K c' = some x → Q c) (h : binStrF op a b K = some x) : binStr op a b Q := by
  cases op <;> first | exact ⟨(stG_some h).1, hQ _ _ (.refl _) (stG_some h).2⟩ | exact hQ _ _ (.refl _) h | exact absurd h (by simp [binStrF])

theorem bin_fok (hE : E.Ok P) {op : BinOp} {T : TypeId} {m n : MV} {K : MV → Option α} {Q : MV → Prop} (hQ : ∀ c c', Ev c c' → K c' = some x → Q c) (h : binF E op T m n K = some x) : binP P op T m n Q := by
  unfold binF at h
  split at h
  · rename_i k a k' b
    split at h
    · rename_i hs
      cases op <;> first | exact ⟨(gd_some h).1, hQ _ _ (.refl _) (gd_some h).2⟩ | cases hs
    · rename_i hs
      split at h
      · rename_i hk
        have := binInt_fok hQ hs h
        cases op <;> first | (simp only [binP, hk, if_true]; subst hk; exact this) | cases hs
      · exact absurd h (by simp)
  · exact binStr_fok hQ h
  · split at h
    · rename_i hk
      have := kdE_ok hE hk (by simp)
      cases op <;> first | exact ⟨this, hQ _ _ (.refl _) h⟩ | exact absurd h (by simp)
    · exact absurd h (by simp)
  · split at h
    · rename_i e hk
      have := kdE_ok hE hk (by simp)
      cases op <;> first | exact ⟨⟨e, this⟩, hQ _ _ (.refl _) h⟩ | exact absurd h (by simp)
    · exact absurd h (by simp)
  · rename_i k o k' o'
    split at h
    · rename_i hb
      rw [Bool.and_eq_true] at hb
      have e1 : k = k' := Nat.eq_of_beq_eq_true hb.1
      have e2 : o = o' := Nat.eq_of_beq_eq_true hb.2
      split at h
      · rename_i e hk
        have := kdE_ok hE hk (by simp)
        split at h
        · rename_i ti hti
          cases op <;> first | exact ⟨⟨e1, e2⟩, ⟨e, ti, this, hE.ty _ _ hti⟩, hQ _ _ (.refl _) h⟩ | exact absurd h (by simp)
        · exact absurd h (by simp)
      · exact absurd h (by simp)
    · exact absurd h (by simp)
  · split at h
    · rename_i e hk
      have := kdE_ok hE hk (by simp)
      cases op <;> first | exact ⟨⟨e, this⟩, hQ _ _ (.refl _) h⟩ | exact absurd h (by simp)
    · exact absurd h (by simp)
  · split at h
    · rename_i ts hts
      obtain ⟨b, hb, h⟩ := sO_some h
      unfold binP
      simp only [hE.eq _ _ hts, hb]
      cases op <;> first | exact hQ _ _ (.refl _) h | exact absurd h (by simp)
    · exact absurd h (by simp)
  · exact absurd h (by simp)

theorem binE_fok (hE : E.Ok P) {op : BinOp} {T : TypeId} {y z : Operand} {K : MV → Option α} {Q : MV → Prop} (hQ : ∀ c c', Ev c c' → K c' = some x → Q c) (h : binEF E st op T y z K = some x) : binE P st op T y z Q := by
  unfold binEF at h
  unfold binE
  split at h
  · rename_i hn
    rw [if_pos hn]
    split at h
    · rename_i b hb
      rw [hb]
      simp only
      split at h
      · rename_i e hk
        have := kdE_ok hE hk (by simp)
        cases op <;> first | exact ⟨⟨e, this⟩, hQ _ _ (.refl _) h⟩ | exact absurd h (by simp)
      · exact absurd h (by simp)
    · rename_i hb
      rw [hb]
      simp only
      split at h
      · rename_i es hes
        rw [hes]
        simp only
        split at h
        · rename_i e hk
          have := kdE_ok hE hk (by simp)
          cases op with
          | eql => obtain ⟨h1, h2⟩ := nilB_some h; exact ⟨⟨e, this⟩, hQ _ _ (.refl _) h1, fun q => hQ _ _ (.refl _) (h2 q)⟩
          | neq => obtain ⟨h1, h2⟩ := nilB_some h; exact ⟨⟨e, this⟩, hQ _ _ (.refl _) h1, fun q => hQ _ _ (.refl _) (h2 q)⟩
          | _ => exact absurd h (by simp)
        · exact absurd h (by simp)
      · exact absurd h (by simp)
  · rename_i hn
    rw [if_neg (by rw [hn]; simp)]
    split at h
    · rename_i hz
      have ez : z = .const .nilIface := by
        unfold isNilI at hz
        split at hz
        · rfl
        · exact absurd hz (by simp)
      subst ez
      split at h
      · rename_i m hm
        have hc : opv st (.const .nilIface) = some .nilifc := rfl
        rw [hm, hc]
        split at h
        · rename_i hk
          have hk := kdE_ok hE hk (by simp)
          have key : ∀ {f : Bool → MV}, ifN m (fun b => K (f b)) = some x → (m = .nilifc ∧ Q (f true)) ∨ ((∃ t v, m = .ifc t v) ∧ Q (f false)) := by
            intro f h
            unfold ifN at h
            split at h
            · exact .inl ⟨rfl, hQ _ _ (.refl _) h⟩
            · exact .inr ⟨⟨_, _, rfl⟩, hQ _ _ (.refl _) h⟩
            · exact absurd h (by simp)
          cases op with
          | eql => rcases key (f := fun b => .bool b) h with ⟨rfl, q⟩ | ⟨⟨t, v, rfl⟩, q⟩ <;> exact ⟨fun _ => rfl, hk, q⟩
          | neq => rcases key (f := fun b => .bool (!b)) h with ⟨rfl, q⟩ | ⟨⟨t, v, rfl⟩, q⟩ <;> exact ⟨fun _ => rfl, hk, q⟩
          | _ => exact absurd h (by simp)
        · exact absurd h (by simp)
      · exact absurd h (by simp)
    · split at h
      · rename_i a ha
        split at h
        · rename_i b hb
          rw [ha, hb]
          refine ⟨fun hni => ?_, bin_fok hE hQ h⟩
          cases a <;> first | (simp at hni; done) | (unfold binF at h; simp only at h; exact absurd h (by simp))
        · exact absurd h (by simp)
      · exact absurd h (by simp)

theorem pick_fok {c y z : Operand} {K : MV → Option α} {Q : MV → Prop} (hQ : ∀ c c', Ev c c' → K c' = some x → Q c) (h : pickF st c y z K = some x) : (match opv st c with
    | some (.bool b) => if b = true then (match shv st y with
        | some m => Q m
        | none => False)
      else (match shv st z with
        | some m => Q m
        | none => False)
    | _ => False) := by
  unfold pickF at h
  split at h
  · rename_i b hb
    rw [hb]
    cases b with
    | true =>
      obtain ⟨m, hm, h2⟩ := sO_some (show sO (shv st y) (fun m => K m) = some x from h)
      simp only [if_true]; rw [hm]; exact hQ _ _ (.refl _) h2
    | false =>
      obtain ⟨m, hm, h2⟩ := sO_some (show sO (shv st z) (fun m => K m) = some x from h)
      simp only [Bool.false_eq_true, if_false]; rw [hm]; exact hQ _ _ (.refl _) h2
  · exact absurd h (by simp)

theorem cut_fok {ti : TI} {cs : List MV} {off : Nat} {K : MV → Option α} {Q : MV → Prop} (hQ : ∀ c c', Ev c c' → K c' = some x → Q c) (h : cutF ti cs off K = some x) : cutC ti cs off Q := by
  unfold cutF at h
  unfold cutC
  split at h
  · rename_i e
    rw [if_pos e]; exact ⟨(gd_some h).1, hQ _ _ (.refl _) (gd_some h).2⟩
  · rename_i e
    rw [if_neg (by rw [e]; simp)]
    obtain ⟨m, hm, h⟩ := sO_some h
    rw [hm]; exact hQ _ _ (.refl _) h

theorem cutE_fok {ti : TI} {cs : List MV} {off : Nat} {K : MV → Option α} {Q : MV → Prop} (hQ : ∀ c c', Ev c c' → K c' = some x → Q c) (h : cutE ti cs off K = some x) : cutC ti cs off Q := by
  unfold cutE at h
  unfold cutC
  split at h
  · rename_i e
    rw [if_pos e]
    obtain ⟨h1, h⟩ := gd_some h
    obtain ⟨ds, e1, e2, h⟩ := dCs_some h
    exact ⟨h1, hQ _ _ (.agg _ _ e1 e2) h⟩
  · rename_i e
    rw [if_neg (by rw [e]; simp)]
    obtain ⟨m, hm, h⟩ := cel_some h
    obtain ⟨m', e1, h⟩ := dK_some h
    rw [hm]; exact hQ _ _ e1 h

theorem ext_fok {y : Operand} {i : Nat} {K : MV → Option α} {Q : MV → Prop} (hQ : ∀ c c', Ev c c' → K c' = some x → Q c) (h : extF st y i K = some x) : extP st y i Q := by
  cases y with
  | tmp t =>
    simp only [extF] at h
    simp only [extP]
    split at h
    · rename_i cs hc
      obtain ⟨m, hm, h⟩ := sO_some h
      rw [hc]; simp only; rw [hm]; exact hQ _ _ (.refl _) h
    · exact absurd h (by simp)
  | const v => exact absurd h (by simp [extF])
  | func f => exact absurd h (by simp [extF])
  | global f => exact absurd h (by simp [extF])

theorem load_fok (hE : E.Ok P) {T : TypeId} {y : Operand} {K : MV → Option α} {Q : MV → Prop} (hQ : ∀ c c', Ev c c' → K c' = some x → Q c) (h : loadF E st T y K = some x) : loadP P st T y Q := by
  unfold loadF at h
  split at h
  · exact absurd h (by simp)
  rename_i ti hti
  unfold loadP
  rw [hE.ty _ _ hti]
  simp only
  split at h
  · rename_i t
    simp only
    split at h
    · rename_i cs off hc
      rw [hc]; exact cutE_fok hQ h
    · rename_i k off hc
      rw [hc]
      simp only
      split at h
      · rename_i cs hk
        rw [hk]
        exact cut_fok hQ h
      · exact absurd h (by simp)
    · rename_i k sz i off hc
      rw [hc]
      simp only
      split at h
      · rename_i sz' es hk
        rw [hk]
        obtain ⟨h1, h⟩ := sB_some h
        obtain ⟨e, h2, h⟩ := rdN_some h
        refine ⟨beq_nat h1, ?_⟩
        rw [h2]
        exact cutE_fok hQ h
      · rename_i sz' es foc hk
        rw [hk]
        obtain ⟨h1, h⟩ := sB_some h
        obtain ⟨h3, h⟩ := sB_some h
        obtain ⟨e, h2, h⟩ := rdN_some h
        obtain ⟨c, h4, h⟩ := cel_some h
        have hag : aggKd ti.kd = false := by
          unfold dN at h
          cases hkd : ti.kd <;> first | rfl | (rw [hkd] at h; exact absurd h (by simp))
        obtain ⟨h5, h⟩ := dN_some h
        refine ⟨beq_nat h1, hag, offs_all h3, ?_⟩
        rw [h2]
        simp only
        rw [h4]
        exact ⟨h5, hQ _ _ (.refl _) h⟩
      · exact absurd h (by simp)
    · exact absurd h (by simp)
  · exact absurd h (by simp)

theorem fa_fok (hE : E.Ok P) {T : TypeId} {y : Operand} {f : Nat} {K : MV → Option α} {Q : MV → Prop} (hQ : ∀ c c', Ev c c' → K c' = some x → Q c) (h : faF E st T y f K = some x) : faP P st T y f Q := by
  unfold faF at h
  split at h
  · rename_i o fT hf
    unfold faP
    rw [fieldE_ok hE hf]
    simp only
    split at h
    · exact absurd h (by simp)
    · rename_i s hs
      refine ⟨by rw [szE_ok hE hs]; simp, ?_⟩
      split at h
      · rename_i t
        simp only
        split at h
        · rename_i hc; rw [hc]; exact hQ _ _ (.refl _) h
        · rename_i hc; rw [hc]; exact hQ _ _ (.refl _) h
        · rename_i hc; rw [hc]; exact hQ _ _ (.refl _) h
        · exact absurd h (by simp)
      · exact absurd h (by simp)
  · exact absurd h (by simp)

theorem field_fok (hE : E.Ok P) {T : TypeId} {y : Operand} {f : Nat} {K : MV → Option α} {Q : MV → Prop} (hQ : ∀ c c', Ev c c' → K c' = some x → Q c) (h : fieldF E st T y f K = some x) : fieldP P st T y f Q := by
  unfold fieldF at h
  split at h
  · rename_i o fT hf
    unfold fieldP
    rw [fieldE_ok hE hf]
    simp only
    split at h
    · rename_i ti hti
      rw [hE.ty _ _ hti]
      simp only
      split at h
      · rename_i cs hc; rw [hc]; exact cut_fok hQ h
      · exact absurd h (by simp)
    · exact absurd h (by simp)
  · exact absurd h (by simp)

theorem ia_fok (hE : E.Ok P) {T : TypeId} {y i : Operand} {K : MV → Option α} {Q : MV → Prop} (hQ : ∀ c c', Ev c c' → K c' = some x → Q c) (h : iaF E st T y i K = some x) : iaP P st T y i Q := by
  unfold iaF at h
  split at h
  · rename_i eT hk
    unfold iaP
    rw [kdE_ok hE hk (by simp)]
    simp only
    split at h
    · rename_i k n hn
      rw [hn]
      simp only
      split at h
      · exact absurd h (by simp)
      · rename_i s hs
        have hs' := szE_ok hE hs
        split at h
        · rename_i t
          simp only
          split at h
          · rename_i es hc
            obtain ⟨h0, e, he, h⟩ := rd_some h
            obtain ⟨hl, h⟩ := gd_some h
            rw [hc]
            exact ⟨h0, by rw [hs']; simp, e, he, by rw [hs']; exact hl, hQ _ _ (.refl _) h⟩
          · rename_i k hc
            rw [hc]
            simp only
            split at h
            · rename_i dp sz es foc hk2
              split at h
              · rename_i hb
                obtain ⟨h0, hlt, h⟩ := ixG_some h
                rw [hk2]
                exact ⟨h0, by rw [hs']; simp, hlt, by rw [hs']; exact beq_nat hb, hQ _ _ (.refl _) h⟩
              · exact absurd h (by simp)
            · exact absurd h (by simp)
          · exact absurd h (by simp)
        · exact absurd h (by simp)
    · exact absurd h (by simp)
  · exact absurd h (by simp)

theorem idx_fok (hE : E.Ok P) {T : TypeId} {y i : Operand} {K : MV → Option α} {Q : MV → Prop} (hQ : ∀ c c', Ev c c' → K c' = some x → Q c) (h : idxF E st T y i K = some x) : idxP P st T y i Q := by
  unfold idxF at h
  split at h
  · rename_i hk
    unfold idxP
    rw [kdE_ok hE hk (by simp)]
    simp only
    split at h
    · rename_i s k n hs hn
      rw [hs, hn]
      unfold ixS at h
      split at h
      · rename_i e; exact ⟨e.1, e.2, hQ _ _ (.refl _) h⟩
      · exact absurd h (by simp)
    · exact absurd h (by simp)
  · exact absurd h (by simp)

theorem slice_fok (hE : E.Ok P) {T : TypeId} {y : Operand} {lo hi : Option Operand} {K : MV → Option α} {Q : MV → Prop} (hQ : ∀ c c', Ev c c' → K c' = some x → Q c) (h : sliceF E st T y lo hi K = some x) : sliceP P st T y lo hi Q := by
  unfold sliceF at h
  split at h
  · rename_i hk
    unfold sliceP
    rw [kdE_ok hE hk (by simp)]
    simp only
    split at h
    · rename_i s hs
      rw [hs]
      simp only
      split at h
      · rename_i l hh hl h2
        rw [hl, h2]
        unfold slS at h
        split at h
        · rename_i e; exact ⟨e.1, e.2.1, e.2.2, hQ _ _ (.refl _) h⟩
        · exact absurd h (by simp)
      · exact absurd h (by simp)
    · exact absurd h (by simp)
  · rename_i eT hk
    unfold sliceP
    rw [kdE_ok hE hk (by simp)]
    simp only
    split at h
    · exact absurd h (by simp)
    · rename_i s hs
      have hs' := szE_ok hE hs
      split at h
      · rename_i t
        simp only
        split at h
        · rename_i es hc
          rw [hc]
          simp only
          split at h
          · rename_i l hh hl h2
            rw [hl, h2]
            unfold slL at h
            split at h
            · rename_i e
              refine ⟨e.1.1, e.1.2.1, e.1.2.2, ⟨fun q hq => ?_, by rw [hs']; simp⟩, hQ _ _ (.refl _) h⟩
              have := e.2
              unfold widAt at this
              rw [hq] at this
              rw [hs']; exact beq_nat this
            · exact absurd h (by simp)
          · exact absurd h (by simp)
        · exact absurd h (by simp)
      · exact absurd h (by simp)
  · exact absurd h (by simp)

theorem nc_fok {y : Operand} {K : MV → Option α} {Q : MV → Prop} (hQ : ∀ c c', Ev c c' → K c' = some x → Q c) (h : ncF st y K = some x) : ncP st y Q := by
  unfold ncF at h
  unfold ncP
  split at h
  · rename_i t
    simp only
    split at h
    · rename_i hc; rw [hc]; exact hQ _ _ (.refl _) h
    · rename_i hc; rw [hc]; exact hQ _ _ (.refl _) h
    · rename_i hc; rw [hc]; exact hQ _ _ (.refl _) h
    · rename_i hc; rw [hc]; exact hQ _ _ (.refl _) h
    · exact absurd h (by simp)
  · exact hQ _ _ (.refl _) h
  · exact absurd h (by simp)

theorem mm_fok {mx : Bool} {ms : List MV} {K : MV → Option α} {Q : MV → Prop} (hQ : ∀ c c', Ev c c' → K c' = some x → Q c) (h : mmF mx ms K = some x) : mmP mx ms Q := by
  unfold mmF at h
  unfold mmP
  split at h
  · exact hQ _ _ (.refl _) h
  · exact hQ _ _ (.refl _) h
  · exact absurd h (by simp)

theorem look_fok (hE : E.Ok P) {T : TypeId} {y i : Operand} {ok : Bool} {K : MV → Option α} {Q : MV → Prop} (hQ : ∀ c c', Ev c c' → K c' = some x → Q c) (h : lookF E st T y i ok K = some x) : lookP P st T y i ok Q := by
  unfold lookF at h
  split at h
  · rename_i kT eT hk
    unfold lookP
    rw [kdE_ok hE hk (by simp)]
    simp only
    split at h
    · rename_i m kv ti hm hkv hti
      rw [hm, hkv, hE.ty _ _ hti]
      simp only
      obtain ⟨k, hk2, h⟩ := sO_some h
      obtain ⟨hg, h⟩ := gK_some h
      have hkk : kdE E kT ≠ .other := by intro e; rw [e] at hk2; simp [keyT] at hk2
      rw [kdE_ok hE rfl hkk, hk2]
      refine ⟨hg, ?_⟩
      have fin : ∀ (b : Bool) (v : MV), (dT ti v fun v' => match ok with
          | true => K (.tup [v', .bool b])
          | false => K v') = some x → Q (if ok = true then .tup [v, .bool b] else v) := by
        intro b v h
        obtain ⟨v', e, h⟩ := dT_some h
        cases ok with
        | true => exact hQ _ (.tup [v', .bool b]) (.tup [v, .bool b] [v', .bool b] rfl (by
            intro i c d hc hd
            match i with
            | 0 => simp at hc hd; subst hc; subst hd; exact e
            | 1 => simp at hc hd; subst hc; subst hd; exact .refl _
            | i + 2 => simp at hc)) h
        | false => exact hQ _ v' e h
      rcases mgE_some h with ⟨v, h1, h⟩ | ⟨h1, h⟩
      · rw [h1]; exact fin true v h
      · rw [h1]; exact fin false _ h
    · exact absurd h (by simp)
  · exact absurd h (by simp)

theorem pure_fok (hE : E.Ok P) {o : Op} {K : MV → Option α} {Q : MV → Prop} (hQ : ∀ c c', Ev c c' → K c' = some x → Q c) (h : pureF E st o K = some x) : pureP P st o Q := by
  unfold pureF at h
  split at h
  · exact mov_fok hQ h
  · exact binE_fok hE hQ h
  · exact pick_fok hQ h
  · obtain ⟨a, ha, h⟩ := sO_some h
    simp only [pureP]; rw [ha]; exact un_fok hQ h
  · obtain ⟨a, ha, h⟩ := sO_some h
    simp only [pureP]; rw [ha]; exact conv_fok hE hQ h
  · exact ext_fok hQ h
  · exact load_fok hE hQ h
  · exact fa_fok hE hQ h
  · exact field_fok hE hQ h
  · exact ia_fok hE hQ h
  · exact idx_fok hE hQ h
  · exact slice_fok hE hQ h
  · exact look_fok hE hQ h
  · exact nc_fok hQ h
  · split at h
    · rename_i hfs
      obtain ⟨a, ha, h⟩ := sO_some h
      simp only [pureP]; rw [ha]; exact ⟨hfs, hQ _ _ (.refl _) h⟩
    · exact absurd h (by simp)
  · rename_i c
    split at h
    · rename_i hcal
      split at h
      · rename_i y T hx hT
        obtain ⟨m, hm, h⟩ := sO_some h
        obtain ⟨n, hn, h⟩ := sO_some h
        simp only [pureP]
        rw [hcal]
        simp only
        rw [hx]
        simp only
        rw [hm]
        have hT' : c.argTypes.getD 0 0 = T := by
          rw [Array.getD_eq_getD_getElem?, ← Array.getElem?_toList, hT]; rfl
        have hkk : kdE E T ≠ .other := by intro e; rw [e] at hn; simp [lenC] at hn
        refine ⟨fun e => ?_, by simp only; rw [hT', kdE_ok hE rfl hkk, hn]; exact hQ _ _ (.refl _) h⟩
        have : c.argTypes.toList.length = 0 := by rw [Array.length_toList]; exact e
        rw [hT] at this; simp at this
      · exact absurd h (by simp)
    · rename_i hcal
      obtain ⟨m, hm, h⟩ := sO_some h
      simp only [pureP]
      rw [hcal]
      simp only
      rw [hm]
      exact mm_fok hQ h
    · rename_i hcal
      obtain ⟨m, hm, h⟩ := sO_some h
      simp only [pureP]
      rw [hcal]
      simp only
      rw [hm]
      exact mm_fok hQ h
    · exact absurd h (by simp)
  · exact absurd h (by simp)

end
end
end Go.Pv
