/- The library of this work, H texts, part K: stores into variables; maps; copies; cells that become objects. -/
import Derived.Test.YtlfbfhgoehndpaaGreatDoorHJ
set_option linter.unusedVariables false
set_option linter.unusedSimpArgs false
noncomputable section
namespace Go.Pv

section
variable {α : Type}
/-! ### Maps that turn -/
def mset : List (MKey × MV) → MKey → MV → List (MKey × MV)
  | [], k, v => [(k, v)]
  | (k', v') :: r, k, v => if k = k' then (k, v) :: r else (k', v') :: mset r k v
def mdel : List (MKey × MV) → MKey → List (MKey × MV)
  | [], k => []
  | (k', v') :: r, k => if k = k' then r else (k', v') :: mdel r k

def mmkF (E : Env) (hd : List Nat) (st : St) (d : Nat) (T : TypeId) (r : Option Operand) (K : St → Option α) : Option α := match r with
  | none => K (st.newO (some d) (.map (memN hd d) [] []))
  | some _ => none

def mupF (E : Env) (st : St) (T : TypeId) (m k v : Operand) (K : St → Option α) : Option α :=
  match kdE E T with
  | .map kT eT => (match shv st m with
    | some (.ref q) => (match st.B[q]? with
      | some (some (.map false mm [])) => sO (opv st k) fun kv => sO (keyT (kdE E kT) kv) fun key => sO (st.shr v) fun st' => (match st'.B[q]? with
        | some (some (.map false mm' [])) => sO (shv st' v) fun x => sB (np x && noTup x) (gK mm' key (K ⟨st'.v, st'.B.set q (some (.map false (mset mm' key x) []))⟩))
        | _ => none)
      | _ => none)
    | _ => none)
  | _ => none

def delF (E : Env) (st : St) (d : Option Tmp) (c : Call) (K : St → Option α) : Option α :=
  match c.args.toList, c.argTypes.toList with
  | [m, k], T :: _ => (match kdE E T with
    | .map kT eT => (match shv st m with
      | some (.ref q) => (match st.B[q]? with
        | some (some (.map false mm [])) => sO (opv st k) fun kv => sO (keyT (kdE E kT) kv) fun key => gK mm key (K (putO ⟨st.v, st.B.set q (some (.map false (mdel mm key) []))⟩ d (.tup [])))
        | _ => none)
      | _ => none)
    | _ => none)
  | _, _ => none

end

section
variable {α : Type} {E : Env} {P : Program} {x : α} {γ γ' : List Value} {ω ω' : Own} {w w' : World} {nt : Nat} {st : St} {a : Act} {K : St → Option α}

/-- A block is written anew. -/
theorem setObj_chg (h : Rel γ ω w nt st a) {blk k : Nat} (hω : ω blk = some (.ob k [])) (hlt : blk < w.heap.size) (o : Obj) :
    Chg (fun o => o = .ob k []) γ ω w γ ω { w with heap := w.heap.setIfInBounds blk o } ∧ (∀ b, ({ w with heap := w.heap.setIfInBounds blk o } : World).heap.size ≤ b → ω b = none) ∧ ({ w with heap := w.heap.setIfInBounds blk o } : World).heap[blk]? = some o := by
  refine ⟨⟨rfl, rfl, rfl, by simp, fun _ _ h => h, fun b hb h0 => ⟨?_, h0⟩, fun b o' hb h0 hn => ⟨?_, h0⟩⟩, fun b hb => h.lt b (by simpa using hb), by simp [hlt]⟩
  · have : blk ≠ b := by intro e; subst e; rw [hω] at h0; simp at h0
    simp [Array.getElem?_setIfInBounds, this]
  · have : blk ≠ b := by intro e; subst e; rw [hω] at h0; injection h0 with h0; exact hn h0.symm
    simp [Array.getElem?_setIfInBounds, this]

/-! #### A store into a variable -/
theorem stoB_ok (hE : E.Ok P) (h : Rel γ ω w nt st a) {T : TypeId} {t : Nat} {k off : Nat} (hc : lk st.v t = .ptr k off) {y : Operand} (hx : stoBF E st T k off y K = some x) :
    DoesU P nt γ ω w a (Instr.storeAt T (a.eval (.tmp t)) (a.eval y)) K x := by
  have hp := h.slot t hc
  obtain ⟨blk, hb, hpe⟩ : ∃ blk, γ[k]? = some (.pointer (some ⟨blk, 0, none⟩)) ∧ a.eval (.tmp t) = .pointer (some ⟨blk, off, none⟩) := by
    generalize a.eval (.tmp t) = v at hp ⊢
    cases hp with
    | ptr _ _ blk hb => exact ⟨blk, hb, rfl⟩
  rw [hpe]
  unfold stoBF at hx
  split at hx
  · rename_i cs hk
    replace hx := sO_some hx; obtain ⟨m, hm, hx⟩ := hx
    replace hx := sB_some hx; obtain ⟨h1, hx⟩ := hx
    split at hx
    · exact absurd hx (by simp)
    · rename_i sT hsT
      replace hx := sB_some hx; obtain ⟨h2, hx⟩ := hx
      replace hx := sB_some hx; obtain ⟨h3, hx⟩ := hx
      have hs := szE_ok hE hsT
      have h2 := beq_nat h2
      have h3 := ble_nat h3
      obtain ⟨us, g1, g2, g3, g4⟩ := cellsM_ok (h.shv hm) (noTup_ne h1).1 (noTup_ne h1).2
      obtain ⟨ti, hti, hts⟩ := szOf_ne (P := P) (T := T) (by omega)
      obtain ⟨hd, q1, blk', cur, e, q2, q3, q4, q5, q6, q7⟩ := h.objs k _ hk
      rw [hb] at q1; injection q1 with q1; subst q1
      injection q2 with q2; injection q2 with q2; injection q2 with q2; subst q2
      have hrun := run_storeT (P := P) (ty_of hti) (w := w) (g := blk) (o := off) (e := e) (cur := cur) q5 g1 (by omega) (by omega) g3
      let w' := w.setRow blk (cur.toList.take off ++ us ++ cur.toList.drop (off + us.length)).toArray
      have hgb : ∀ b, b ≠ blk → w'.heap[b]? = w.heap[b]? := fun b hb => setRow_other w blk b _ hb
      have hsizew : w'.heap.size = w.heap.size := by simp [w', World.setRow]
      have hcg : Chg (fun o => ∃ p, o = .ob k p) γ ω w γ ω w' := by
        refine ⟨rfl, rfl, rfl, by omega, fun _ _ h => h, fun b hb h0 => ⟨hgb b (fun e => ?_), h0⟩, fun b o hb h0 hn => ⟨hgb b (fun e => ?_), h0⟩⟩
        · subst e; rw [q4] at h0; exact absurd h0 (by simp)
        · subst e; rw [q4] at h0; injection h0 with h0; exact hn ⟨[], h0.symm⟩
      have hlt' : ∀ b, w'.heap.size ≤ b → ω b = none := fun b hb => h.lt b (by omega)
      refine ⟨w', hrun, γ, ω, _, ob_notouter1 hcg, h.inplace hk hcg hlt' (o' := .box (ovr cs off (cellsM m))) (fun hd r1 _ => ?_), hx⟩
      rw [hb] at r1; injection r1 with r1; subst r1
      have hcl : cur.toList.length = cs.length := by rw [Array.length_toList]; exact q6
      have hge := fun i => ovr_get (cs := cur.toList) (ds := us) (off := off) (by omega) i
      have hgc := fun i => ovr_get (cs := cs) (ds := cellsM m) (off := off) (by omega) i
      refine ⟨blk, _, e, rfl, by omega, q4, setRow_heap w blk cur _ e _ q5, by simp [ovr]; omega, fun i c hi => ?_⟩
      simp only [ovr] at hi
      rw [hgc] at hi
      rw [List.getElem?_toArray, hge]
      split at hi
      · rename_i hlt
        rw [if_pos hlt]
        obtain ⟨u, r1, r2, r3⟩ := q7 i c hi
        exact ⟨u, by simpa using r1, r2, r3.chg hcg⟩
      · rename_i hge1
        rw [if_neg hge1]
        split at hi
        · rename_i hlt
          rw [if_pos (by omega)]
          have hiu : i - off < us.length := by omega
          exact ⟨us[i - off], List.getElem?_eq_getElem hiu, g3 _ (List.getElem_mem hiu), (g4 (i - off) c _ hi (List.getElem?_eq_getElem hiu)).chg hcg⟩
        · rename_i hge2
          rw [if_neg (by omega)]
          obtain ⟨u, r1, r2, r3⟩ := q7 i c hi
          exact ⟨u, by simpa using r1, r2, r3.chg hcg⟩
  · exact absurd hx (by simp)

theorem sto_ok (hE : E.Ok P) (h : Rel γ ω w nt st a) {T : TypeId} {ad y : Operand} (hx : stoF E st T ad y K = some x) :
    DoesU P nt γ ω w a (Instr.storeAt T (a.eval ad) (a.eval y)) K x := by
  unfold stoF at hx
  split at hx
  · rename_i t
    split at hx
    · rename_i k sz i off hc; exact stoE_ok hE h hc hx
    · rename_i k off hc; exact stoB_ok hE h hc hx
    · exact absurd hx (by simp)
  · exact absurd hx (by simp)

/-! #### Maps -/
theorem mmk_ok (hE : E.Ok P) (h : Rel γ ω w nt st a) {hd : List Nat} {d : Nat} (hdn : d < nt) {T : TypeId} {r : Option Operand} (hx : mmkF E hd st d T r K = some x) :
    Does P nt γ ω w a (some d) (Instr.makeMap T (r.map a.eval)) K x := by
  unfold mmkF at hx
  split at hx
  · obtain ⟨hcg, hlt'⟩ := alloc_new h (.map #[] 0) (.map (some w.heap.size))
    refine ⟨.map (some w.heap.size), w.alloc (.map #[] 0), by simp [Instr.makeMap, newObj, Sem.run], _, _, _, hcg.mono (fun _ h => h.elim), h.fresh hcg hlt' (o := .map (memN hd d) [] []) ⟨w.heap.size, [], 0, rfl, by simp, by simp, heap_alloc_new w _, rfl, by simp, by simp, by simp, by simp, by simp⟩ rfl rfl (fun t ht => by injection ht with ht; subst ht; exact hdn), hx⟩
  · exact absurd hx (by simp)

theorem mset_spec : ∀ {m : List (MKey × MV)} {k : MKey} {v : MV}, (mfind m k 0 = none ∧ mset m k v = m ++ [(k, v)]) ∨ ∃ j v0, mfind m k 0 = some (j, v0) ∧ m[j]? = some (k, v0) ∧ mset m k v = m.set j (k, v) := by
  have key : ∀ (m : List (MKey × MV)) (k : MKey) (v : MV) (i : Nat), (mfind m k i = none ∧ mset m k v = m ++ [(k, v)]) ∨ ∃ j v0, mfind m k i = some (i + j, v0) ∧ m[j]? = some (k, v0) ∧ mset m k v = m.set j (k, v) := by
    intro m
    induction m with
    | nil => intro k v i; exact .inl ⟨rfl, rfl⟩
    | cons y r ih =>
      intro k v i
      obtain ⟨k', v'⟩ := y
      simp only [mfind, mset]
      by_cases e : k = k'
      · subst e; exact .inr ⟨0, v', by simp, rfl, by simp⟩
      · simp only [if_neg e]
        rcases ih k v (i + 1) with ⟨h1, h2⟩ | ⟨j, v0, h1, h2, h3⟩
        · exact .inl ⟨h1, by rw [h2]; rfl⟩
        · exact .inr ⟨j + 1, v0, by rw [h1, show i + 1 + j = i + (j + 1) from by omega], by simpa using h2, by rw [h3]; rfl⟩
  intro m k v
  rcases key m k v 0 with h | ⟨j, v0, h1, h2, h3⟩
  · exact .inl h
  · exact .inr ⟨j, v0, by rw [h1]; simp, h2, h3⟩

theorem mdel_spec : ∀ {m : List (MKey × MV)} {k : MKey}, (mfind m k 0 = none ∧ mdel m k = m) ∨ ∃ j v0, mfind m k 0 = some (j, v0) ∧ m[j]? = some (k, v0) ∧ mdel m k = m.eraseIdx j := by
  have key : ∀ (m : List (MKey × MV)) (k : MKey) (i : Nat), (mfind m k i = none ∧ mdel m k = m) ∨ ∃ j v0, mfind m k i = some (i + j, v0) ∧ m[j]? = some (k, v0) ∧ mdel m k = m.eraseIdx j := by
    intro m
    induction m with
    | nil => intro k i; exact .inl ⟨rfl, rfl⟩
    | cons y r ih =>
      intro k i
      obtain ⟨k', v'⟩ := y
      simp only [mfind, mdel]
      by_cases e : k = k'
      · subst e; exact .inr ⟨0, v', by simp, rfl, by simp⟩
      · simp only [if_neg e]
        rcases ih k (i + 1) with ⟨h1, h2⟩ | ⟨j, v0, h1, h2, h3⟩
        · exact .inl ⟨h1, by rw [h2]⟩
        · exact .inr ⟨j + 1, v0, by rw [h1, show i + 1 + j = i + (j + 1) from by omega], by simpa using h2, by rw [h3]; rfl⟩
  intro m k
  rcases key m k 0 with h | ⟨j, v0, h1, h2, h3⟩
  · exact .inl h
  · exact .inr ⟨j, v0, by rw [h1]; simp, h2, h3⟩

theorem sameBits_key {kT : TK} {kv : MV} {k : MKey} (hk : keyT kT kv = some k) (n : Nat) : Instr.sameBits (n + 1) k.val k.val = true := by
  unfold keyT at hk
  split at hk
  · injection hk with hk; subst hk; simp [MKey.val, Instr.sameBits, byte_eq]
  · split at hk
    · injection hk with hk; subst hk; simp [MKey.val, Instr.sameBits]
    · exact absurd hk (by simp)
  · injection hk with hk; subst hk; simp [MKey.val, Instr.sameBits]
  · exact absurd hk (by simp)

theorem run_keyStays {kT : TK} {kv : MV} {k : MKey} (hk : keyT kT kv = some k) : (Instr.keyThatStays k.val k.val).run P w = .ok k.val w := by
  have := sameBits_key hk 9999
  simp [Instr.keyThatStays, this]

theorem sameK_self (k : MKey) : sameK k k = true := by cases k <;> simp [sameK]
theorem sameK_symm {a b : MKey} (h : sameK a b = true) : sameK b a = true := by
  cases a <;> cases b <;> simp [sameK] at h ⊢ <;> exact h.symm

theorem getD_key {es : List MapEntry} {j : Nat} {e : MapEntry} (h : es[j]? = some e) {k : Value} (d : Value) (hk : e.key = k) : ((es.toArray[j]?).map (·.key)).getD d = k := by
  simp [h, hk]

theorem mup_ok (hE : E.Ok P) (h : Rel γ ω w nt st a) {T : TypeId} {m k v : Operand} (hx : mupF E st T m k v K = some x) :
    DoesU P nt γ ω w a (Instr.mapUpdate T (a.eval m) (a.eval k) (a.eval v)) K x := by
  unfold mupF at hx
  split at hx
  · rename_i kT eT hkd
    obtain ⟨d, hd, hkd'⟩ := und_of_kd (kdE_ok hE hkd (by simp)) (by simp)
    have := tk_map hkd'; subst this
    split at hx
    · rename_i q hq
      split at hx
      · rename_i mm0 hk0
        replace hx := sO_some hx; obtain ⟨kv, hkv, hx⟩ := hx
        replace hx := sO_some hx; obtain ⟨key, hkey, hx⟩ := hx
        replace hx := sO_some hx; obtain ⟨st', hst, hx⟩ := hx
        have hkk : kdE E kT ≠ .other := by intro e; rw [e] at hkey; simp [keyT] at hkey
        rw [← kdE_ok hE rfl hkk] at hkey
        have hkv' := keyT_rep hkey (h.val hkv)
        have hm := h.shv hq
        obtain ⟨ω1, hc1, hR1⟩ := h.shr hst
        have hkk2 : kdOf P kT ≠ .other := by intro e; rw [e] at hkey; simp [keyT] at hkey
        obtain ⟨d2, hd2, hkd2⟩ := und_of_kd rfl hkk2
        split at hx
        · rename_i mm hk
          replace hx := sO_some hx; obtain ⟨y, hy, hx⟩ := hx
          replace hx := sB_some hx; obtain ⟨h1, hx⟩ := hx
          replace hx := gK_some hx; obtain ⟨h2, hx⟩ := hx
          simp only [Bool.and_eq_true] at h1
          have hyr := hR1.shv hy
          obtain ⟨hdv, g1, blk, es, clock, g2, g3⟩ := hR1.objs q _ hk
          have hmv : a.eval m = .map (some blk) := by
            generalize a.eval m = u at hm ⊢
            cases hm with
            | ref _ _ hb _ _ => rw [g1] at hb; injection hb with hb; rw [← hb, g2]
          have hall := kOk_all h2 g3.same
          have hget : w.heap[blk]? = some (.map es.toArray clock) := g3.heap
          rcases run_findKey (w := w) hd2 hkd2 hkey g3.len g3.key hall with ⟨f1, f2⟩ | ⟨j, v0, e, f1, f2, f3, f4⟩
          · -- a new key
            have hms : mset mm key y = mm ++ [(key, y)] := by
              rcases mset_spec (m := mm) (k := key) (v := y) with ⟨_, h⟩ | ⟨j, v0, h, _⟩
              · exact h
              · rw [f1] at h; simp at h
            obtain ⟨hcg, hlt', hnew⟩ := setObj_chg hR1 g3.own g3.lt (.map (es.toArray.push { key := key.val, val := a.eval v, born := clock }) (clock + 1))
            refine ⟨_, ?_, γ, ω1, _, hc1.trans (ob_notouter1 (hcg.mono (fun o e => ⟨[], e⟩))), hR1.inplace hk (hcg.mono (fun o e => ⟨[], e⟩)) hlt' (o' := .map false (mset mm key y) []) (fun hd r1 _ => ?_), hx⟩
            · rw [hmv, hkv']
              simp [Instr.mapUpdate, run_underlying hd, getObj, Sem.run, hget, run_checkKey hd2 hkd2 hkey, f2, setObj]
            · rw [g1] at r1; injection r1 with r1; subst r1
              refine ⟨blk, es ++ [{ key := key.val, val := a.eval v, born := clock }], clock + 1, g2, g3.own, by simpa using g3.lt, by simpa using hnew, by rw [hms]; simp [g3.len], ?_, ?_, ?_, ?_, ?_⟩
              · intro i x e hx he
                rw [hms] at hx
                rcases Nat.lt_or_ge i mm.length with hi | hi
                · rw [List.getElem?_append_left hi] at hx
                  rw [List.getElem?_append_left (by rw [g3.len]; exact hi)] at he
                  exact g3.key i x e hx he
                · rw [List.getElem?_append_right hi] at hx
                  rw [List.getElem?_append_right (by rw [g3.len]; exact hi), g3.len] at he
                  cases hz : i - mm.length with
                  | zero => rw [hz] at hx he; simp at hx he; subst hx; subst he; rfl
                  | succ n => rw [hz] at hx; simp at hx
              · intro i x e hx he
                simp only [lkK]
                rw [hms] at hx
                rcases Nat.lt_or_ge i mm.length with hi | hi
                · rw [List.getElem?_append_left hi] at hx
                  rw [List.getElem?_append_left (by rw [g3.len]; exact hi)] at he
                  have := g3.val i x e hx he
                  simp only [lkK] at this
                  exact ⟨this.1, .rep _ _ _ (this.1 (by trivial)) ((this.2.toRep (this.1 (by trivial))).chg hcg)⟩
                · rw [List.getElem?_append_right hi] at hx
                  rw [List.getElem?_append_right (by rw [g3.len]; exact hi), g3.len] at he
                  cases hz : i - mm.length with
                  | zero => rw [hz] at hx he; simp at hx he; subst hx; subst he; exact ⟨fun _ => h1.1, .rep _ _ _ h1.1 (hyr.chg hcg)⟩
                  | succ n => rw [hz] at hx; simp at hx
              · intro e he
                rcases List.mem_append.1 he with he | he
                · have := g3.born e he; omega
                · simp at he; subst he; simp
              · rw [List.map_append, List.nodup_append]
                refine ⟨g3.nodup, by simp, ?_⟩
                intro b hb c hc
                simp at hc
                subst hc
                obtain ⟨e, he, rfl⟩ := List.mem_map.1 hb
                have := g3.born e he; omega
              · rw [hms]
                intro x hx y' hy'
                have hxk : ∀ x ∈ mm ++ [(key, y)], sameK x.1 key = true := by
                  intro x hx
                  rcases List.mem_append.1 hx with hx | hx
                  · exact hall x hx
                  · simp at hx; subst hx; exact sameK_self key
                exact sameK_trans (sameK_symm (hxk x hx)) (sameK_symm (hxk y' hy'))
          · -- a key that is there
            have hms : mset mm key y = mm.set j (key, y) := by
              rcases mset_spec (m := mm) (k := key) (v := y) with ⟨h, _⟩ | ⟨j', v0', h, _, h3⟩
              · rw [f1] at h; simp at h
              · rw [f1] at h; injection h with h; injection h with h _; subst h; exact h3
            have hek : e.key = key.val := g3.key j _ e f2 f3
            have hjl : j < es.length := (List.getElem?_eq_some_iff.1 f3).1
            have hej : es[j] = e := (List.getElem?_eq_some_iff.1 f3).2
            obtain ⟨hcg, hlt', hnew⟩ := setObj_chg hR1 g3.own g3.lt (.map (es.toArray.modify j fun e => { e with key := key.val, val := a.eval v }) clock)
            have hmod : (es.toArray.modify j fun e => { e with key := key.val, val := a.eval v }) = (es.set j { e with key := key.val, val := a.eval v }).toArray := by
              apply Array.ext'
              simp only [Array.toList_modify]
              apply List.ext_getElem?
              intro i
              rw [List.getElem?_modify, List.getElem?_set]
              by_cases hji : j = i
              · subst hji; simp [hej, hjl]
              · simp [hji]
            refine ⟨_, ?_, γ, ω1, _, hc1.trans (ob_notouter1 (hcg.mono (fun o e => ⟨[], e⟩))), hR1.inplace hk (hcg.mono (fun o e => ⟨[], e⟩)) hlt' (o' := .map false (mset mm key y) []) (fun hd r1 _ => ?_), hx⟩
            · rw [hmv, hkv']
              have hkk3 : (Option.map (fun x : MapEntry => x.key) es[j]?).getD key.val = key.val := by simp [f3, hek]
              simp [Instr.mapUpdate, run_underlying hd, getObj, Sem.run, hget, run_checkKey hd2 hkd2 hkey, f4, setObj, hkk3, run_keyStays hkey]
            · rw [g1] at r1; injection r1 with r1; subst r1
              have hbs : (es.set j { e with key := key.val, val := a.eval v }).map (·.born) = es.map (·.born) := by
                rw [List.map_set]
                apply List.ext_getElem?
                intro i
                rw [List.getElem?_set]
                by_cases hji : j = i
                · subst hji; simp [hej, hjl]
                · rw [if_neg hji]
              have hget2 : ∀ (i : Nat) (x : MKey × MV) (e' : MapEntry), (mm.set j (key, y))[i]? = some x → (es.set j { e with key := key.val, val := a.eval v })[i]? = some e' → (i = j ∧ x = (key, y) ∧ e' = { e with key := key.val, val := a.eval v }) ∨ (mm[i]? = some x ∧ es[i]? = some e') := by
                intro i x e' hx he
                rw [List.getElem?_set] at hx he
                by_cases hji : j = i
                · subst hji
                  have hjm : j < mm.length := (List.getElem?_eq_some_iff.1 f2).1
                  simp [hjl] at he
                  simp [hjm] at hx
                  exact .inl ⟨rfl, hx.symm, he.symm⟩
                · rw [if_neg hji] at hx he; exact .inr ⟨hx, he⟩
              refine ⟨blk, es.set j { e with key := key.val, val := a.eval v }, clock, g2, g3.own, by simpa using g3.lt, by rw [← hmod]; simpa using hnew, by rw [hms]; simp [g3.len], ?_, ?_, ?_, by rw [hbs]; exact g3.nodup, ?_⟩
              · intro i x e' hx he
                rw [hms] at hx
                rcases hget2 i x e' hx he with ⟨_, rfl, rfl⟩ | ⟨r1, r2⟩
                · rfl
                · exact g3.key i x e' r1 r2
              · intro i x e' hx he
                simp only [lkK]
                rw [hms] at hx
                rcases hget2 i x e' hx he with ⟨_, rfl, rfl⟩ | ⟨r1, r2⟩
                · exact ⟨fun _ => h1.1, .rep _ _ _ h1.1 (hyr.chg hcg)⟩
                · have := g3.val i x e' r1 r2
                  simp only [lkK] at this
                  exact ⟨this.1, .rep _ _ _ (this.1 (by trivial)) ((this.2.toRep (this.1 (by trivial))).chg hcg)⟩
              · intro e' he
                have : e'.born ∈ (es.set j { e with key := key.val, val := a.eval v }).map (·.born) := List.mem_map_of_mem he
                rw [hbs] at this
                obtain ⟨e2, h3, h4⟩ := List.mem_map.1 this
                rw [← h4]; exact g3.born e2 h3
              · rw [hms]
                intro x hx y' hy'
                have hxk : ∀ x ∈ mm.set j (key, y), sameK x.1 key = true := by
                  intro x hx
                  rcases List.mem_or_eq_of_mem_set hx with hx | hx
                  · exact hall x hx
                  · subst hx; exact sameK_self key
                exact sameK_trans (sameK_symm (hxk x hx)) (sameK_symm (hxk y' hy'))
        · exact absurd hx (by simp)
      · exact absurd hx (by simp)
    · exact absurd hx (by simp)
  · exact absurd hx (by simp)
end
end Go.Pv
end
