/- A library of this session: the operations that change nothing are told rightly. -/
import Derived.Test.YtoakchnegkmepaaM4
set_option linter.unusedVariables false
set_option linter.unusedSimpArgs false
namespace Go.Pv

theorem range_map {α : Type} {f : Nat → α} {n j : Nat} {u : α} (h : ((List.range n).map f)[j]? = some u) : j < n ∧ f j = u := by
  rw [List.getElem?_map] at h
  rcases Nat.lt_or_ge j n with hj | hj
  · rw [List.getElem?_range hj] at h
    simp at h; exact ⟨hj, h⟩
  · rw [List.getElem?_eq_none (by simpa using hj)] at h
    simp at h

/-- What an operation that changes nothing comes to. -/
def Gives (P : Program) (γ : List Nat) (ω : Own) (w : World) (st : St) (tmps : Array Value) (s : Sem Value) (K : Ct → Prop) : Prop :=
  ∃ c v, s.run P w = .ok v w ∧ (∀ o, CtRep γ ω w st tmps o c v) ∧ K c

section
variable {P : Program} {γ : List Nat} {ω : Own} {w : World} {nt : Nat} {st : St} {a : Act} {K : Ct → Prop}

theorem Gives.sh {tmps : Array Value} {s : Sem Value} {m : MV} {v : Value} (h : s.run P w = .ok v w) (hr : Rep γ ω w m v) (hK : K (.sh m)) : Gives P γ ω w st tmps s K := ⟨.sh m, v, h, fun _ => hr, hK⟩
theorem Gives.of_sh {tmps : Array Value} {s : Sem Value} (h : ∃ m v, s.run P w = .ok v w ∧ Rep γ ω w m v ∧ K (.sh m)) : Gives P γ ω w st tmps s K := by
  obtain ⟨m, v, h1, h2, h3⟩ := h; exact .sh h1 h2 h3

theorem slot_rep (h : Rel γ ω w nt st a) (t : Nat) {c : Ct} (hc : lk st.v t = c) : CtRep γ ω w st a.tmps (.slot t) c (a.eval (.tmp t)) := by
  have := h.slots t; rw [hc] at this; exact this

theorem mov_ok (h : Rel γ ω w nt st a) {x : Operand} (hx : movP st x K) : ∃ c, (∀ o, CtRep γ ω w st a.tmps o c (a.eval x)) ∧ K c := by
  cases x with
  | tmp t =>
    simp only [movP] at hx
    split at hx
    · rename_i m hc; exact ⟨.sh m, fun _ => slot_rep h t hc, hx⟩
    · rename_i sz m hc; exact ⟨.al (.slot t), fun _ => ⟨⟨sz, m, hc⟩, rfl⟩, hx⟩
    · rename_i p hc; exact ⟨.al p, fun _ => slot_rep h t hc, hx⟩
    · rename_i p i o hc; exact ⟨.eadr p i o, fun _ => slot_rep h t hc, hx⟩
    · rename_i cs hc
      refine ⟨.tupc cs, fun o => ?_, hx.2⟩
      obtain ⟨vs, h1, h2, h3⟩ := slot_rep h t hc
      refine ⟨vs, h1, h2, fun i c u hi hu => ?_⟩
      have h4 := h3 i c u hi hu
      have h5 := List.all_eq_true.1 hx.1 c (List.mem_of_getElem? hi)
      obtain ⟨c1, c2⟩ := c
      cases c1 with
      | none => exact h4
      | some _ => simp at h5
    · exact hx.elim
  | const v =>
    simp only [movP] at hx
    split at hx
    · rename_i m hm
      exact ⟨.sh m, fun _ => const_rep hm, hx⟩
    · exact hx.elim
  | func f => simp only [movP] at hx; exact ⟨.sh (.fn f []), fun _ => Rep.fn f [] [] rfl (by simp), hx⟩
  | global g => simp [movP] at hx

theorem shv_rep (h : Rel γ ω w nt st a) {x : Operand} {m : MV} (hx : shv st x = some m) : Rep γ ω w m (a.eval x) := by
  cases x with
  | tmp t =>
    simp only [shv] at hx
    split at hx
    · rename_i m' hc; injection hx with hx; subst hx; exact slot_rep h t hc
    · exact absurd hx (by simp)
  | const v => exact const_rep hx
  | func f => simp only [shv, opv] at hx; injection hx with hx; subst hx; exact .fn f [] [] rfl (by simp)
  | global g => simp [shv, opv] at hx

theorem shvs_rep (h : Rel γ ω w nt st a) : ∀ {xs : List Operand} {ms : List MV}, shvs st xs = some ms → (xs.map a.eval).length = ms.length ∧ ∀ (i : Nat) (c : MV) (v : Value), ms[i]? = some c → (xs.map a.eval)[i]? = some v → Rep γ ω w c v
  | [], ms, hx => by simp [shvs] at hx; subst hx; simp
  | x :: r, ms, hx => by
    unfold shvs at hx
    split at hx
    · rename_i m l hm hl
      injection hx with hx; subst hx
      obtain ⟨h1, h2⟩ := shvs_rep h hl
      refine ⟨by simpa using h1, fun i c v hc hv => ?_⟩
      cases i with
      | zero => simp at hc hv; subst hc; subst hv; exact shv_rep h hm
      | succ i => exact h2 i c v (by simpa using hc) (by simpa using hv)
    · exact absurd hx (by simp)

theorem opvs_val (h : Rel γ ω w nt st a) : ∀ {xs : List Operand} {ms : List MV}, opvs st xs = some ms → (xs.map a.eval).length = ms.length ∧ ∀ (i : Nat) (c : MV) (v : Value), ms[i]? = some c → (xs.map a.eval)[i]? = some v → Val γ ω w c v
  | [], ms, hx => by simp [opvs] at hx; subst hx; simp
  | x :: r, ms, hx => by
    unfold opvs at hx
    split at hx
    · rename_i m l hm hl
      injection hx with hx; subst hx
      obtain ⟨h1, h2⟩ := opvs_val h hl
      refine ⟨by simpa using h1, fun i c v hc hv => ?_⟩
      cases i with
      | zero => simp at hc hv; subst hc; subst hv; exact h.val hm
      | succ i => exact h2 i c v (by simpa using hc) (by simpa using hv)
    · exact absurd hx (by simp)

theorem un_ok {op : UnOp} {m : MV} {v : Value} (hv : Val γ ω w m v) {K : MV → Prop} (h : unP op m K) : ∃ m' v', (Op.unary op v).run P w = .ok v' w ∧ Rep γ ω w m' v' ∧ K m' := by
  unfold unP at h
  split at h
  · have e := hv.bool; subst e; exact ⟨_, _, by simp [Op.unary], .bool _, h⟩
  · have e := hv.int; subst e; exact ⟨_, _, by simp [Op.unary, Op.intArith], .int _ _, h⟩
  · have e := hv.int; subst e
    refine ⟨_, _, ?_, .int _ _, h⟩
    simp only [Op.unary, Op.intBits, bitI]; rfl
  · exact h.elim

theorem conv_ok {s d : TypeId} {m : MV} {v : Value} (hv : Val γ ω w m v) {K : MV → Prop} (h : convP P s d m K) : ∃ m' v', (convert s d v).run P w = .ok v' w ∧ Rep γ ω w m' v' ∧ K m' := by
  unfold convP at h
  split at h
  · rename_i k k' n hk
    obtain ⟨hs, h⟩ := h
    obtain ⟨d1, hd1, _⟩ := und_of_kd rfl hs
    obtain ⟨d2, hd2, hk2⟩ := und_of_kd hk (by simp)
    have := tk_int hk2; subst this
    have e := hv.int; subst e
    exact ⟨_, _, by simp [convert, run_underlying hd1, run_underlying hd2, Conv.intToInt], .int _ _, h⟩
  · rename_i k' n hk
    obtain ⟨hs, h⟩ := h
    obtain ⟨d1, hd1, _⟩ := und_of_kd rfl hs
    obtain ⟨d2, hd2, hk2⟩ := und_of_kd hk (by simp)
    have := tk_str hk2; subst this
    have e := hv.int; subst e
    exact ⟨_, _, by simp [convert, run_underlying hd1, run_underlying hd2, Conv.intToString], .str _, h⟩
  · rename_i s' hk
    obtain ⟨hs, h⟩ := h
    obtain ⟨d1, hd1, _⟩ := und_of_kd rfl hs
    obtain ⟨d2, hd2, hk2⟩ := und_of_kd hk (by simp)
    have := tk_str hk2; subst this
    have e := hv.str; subst e
    exact ⟨_, _, by simp [convert, run_underlying hd1, run_underlying hd2], .str _, h⟩
  · exact h.elim

theorem ext_ok (h : Rel γ ω w nt st a) {x : Operand} {i : Nat} (hx : extP st x i K) : Gives P γ ω w st a.tmps (Instr.extract (a.eval x) i) K := by
  cases x with
  | tmp t =>
    simp only [extP] at hx
    split at hx
    · rename_i vs hc
      split at hx
      · rename_i m hm
        have hr := slot_rep h t hc
        generalize a.eval (.tmp t) = v at hr ⊢
        cases hr with
        | tup _ us hl hh =>
          have hi : i < us.length := by rw [hl]; exact (List.getElem?_eq_some_iff.1 hm).1
          refine .sh (v := us[i]) ?_ (hh i m us[i] hm (List.getElem?_eq_getElem hi)) hx
          simp [Instr.extract, List.getElem?_eq_getElem hi]
      · exact hx.elim
    · rename_i cs hc
      split at hx
      · rename_i m hm
        have hr := slot_rep h t hc
        generalize a.eval (.tmp t) = v at hr ⊢
        obtain ⟨us, rfl, hl, hh⟩ := hr
        have hi : i < us.length := by rw [hl]; exact (List.getElem?_eq_some_iff.1 hm).1
        refine .sh (v := us[i]) ?_ (hh i _ us[i] hm (List.getElem?_eq_getElem hi)) hx
        simp [Instr.extract, List.getElem?_eq_getElem hi]
      · exact hx.elim
    · exact hx.elim
  | const v => simp [extP] at hx
  | func f => simp [extP] at hx
  | global g => simp [extP] at hx

/-- The cells of a value that stand in memory, one behind the other. -/
theorem cut_load {T : TypeId} {ti : TI} (hT : Ty P T ti) {cs : List MV} {off : Nat} {K : MV → Prop} (h : cutC ti cs off K) (b o : Nat) (us : Nat → Value)
    (hc : ∀ (i : Nat) (c : MV), cs[i]? = some c → w.cell? ⟨b, o + i, none⟩ = some (us i) ∧ (us i).oneCell' = true) (hr : ∀ (i : Nat) (c : MV), cs[i]? = some c → Rep γ ω w c (us i)) :
    ∃ m v, (loadVar T ⟨b, o + off, none⟩).run P w = .ok v w ∧ Rep γ ω w m v ∧ K m := by
  unfold cutC at h
  split at h
  · rename_i hag
    obtain ⟨hle, h⟩ := h
    refine ⟨_, _, run_loadVarA hT hag b (o + off) ((List.range ti.size).map fun j => us (off + j)) (by simp) ?_, ?_, h⟩
    · intro j u hj
      obtain ⟨hlt, hj⟩ := range_map hj
      subst hj
      have hlt' : off + j < cs.length := by omega
      rw [show o + off + j = o + (off + j) from by omega]
      exact (hc (off + j) _ (List.getElem?_eq_getElem hlt')).1
    · refine .agg _ _ (by simp; omega) ?_ ?_
      · intro i c v hc1 hv1
        rw [List.getElem?_take] at hc1
        split at hc1
        · rename_i hlt
          rw [List.getElem?_drop] at hc1
          simp [List.getElem?_map, List.getElem?_range, hlt] at hv1
          subst hv1
          exact hr (off + i) c hc1
        · simp at hc1
      · intro v hv
        simp only [List.mem_map, List.mem_range] at hv
        obtain ⟨j, hj, rfl⟩ := hv
        exact (hc (off + j) _ (List.getElem?_eq_getElem (by omega))).2
  · rename_i hag
    split at h
    · rename_i c hcc
      have hag' : aggKd ti.kd = false := by simpa using hag
      exact ⟨c, us off, run_loadVarT hT hag' b (o + off) (us off) (hc off c hcc).1, hr off c hcc, h⟩
    · exact h.elim

theorem cur_own (h : Rel γ ω w nt st a) {p : Place} {sz : Nat} {m : MV} (hat : st.at p = .own sz m) {v : Value} (hv : p.cur γ a.tmps w v) : OwnRep γ ω w p.owner sz m v := by
  cases p with
  | slot s =>
    have := h.slots s
    simp only [St.at] at hat
    rw [hat] at this
    simp only [Place.cur] at hv
    rw [hv] at this
    exact this
  | cell k off =>
    simp only [St.at] at hat
    split at hat
    · rename_i cs hk
      cases ho : cs[off]? with
      | none => rw [ho] at hat; simp at hat
      | some c =>
        rw [ho] at hat
        simp at hat
        subst hat
        obtain ⟨blk, u, h1, h2, h3, h4, _, _, h6⟩ := cell_box h.boxes hk ho
        obtain ⟨blk', h1', h4'⟩ := hv
        rw [h1] at h1'; injection h1' with h1'; subst h1'
        rw [h4] at h4'; injection h4' with h4'; subst h4'
        exact h6
    · exact absurd hat (by simp)

/-- A row that one place holds: its cells. -/
theorem own_cells {o : Owner} {sz : Nat} {es : List (List MV)} {v : Value} (h : OwnRep γ ω w o sz (.list es) v) {blk : Nat} (hb : v.ownBlock = some blk) :
    ∃ cap, v = .slice (some ⟨blk, 0, none⟩) es.length cap ∧ ω blk = some o ∧ blk < w.heap.size ∧ ∃ us : Nat → Nat → Value, ∀ (j : Nat) (e : List MV), es[j]? = some e → e.length = sz ∧ ∀ (i : Nat) (c : MV), e[i]? = some c →
      w.cell? ⟨blk, j * sz + i, none⟩ = some (us j i) ∧ (us j i).oneCell' = true ∧ Rep γ ω w c (us j i) := by
  cases h with
  | list _ _ e xs hr hc ho =>
    obtain ⟨h1, h2⟩ := ho blk hb
    rcases hr.2 with ⟨rfl, h0⟩ | ⟨g, cap, cur, rfl, _, hg, hle, hmx, hcs, htk⟩
    · simp [Value.ownBlock] at hb
    · simp [Value.ownBlock] at hb
      subst hb
      refine ⟨cap, rfl, h1, h2, fun j i => (xs[j * sz + i]?).getD undef, fun j e he => ⟨hc.wid e (List.mem_of_getElem? he), fun i c hi => ?_⟩⟩
      obtain ⟨u, hu, hrep⟩ := hc.rep j e he i c hi
      have hu' : (xs[j * sz + i]?).getD undef = u := by rw [hu]; rfl
      show w.cell? _ = some ((xs[j * sz + i]?).getD undef) ∧ ((xs[j * sz + i]?).getD undef).oneCell' = true ∧ Rep γ ω w c ((xs[j * sz + i]?).getD undef)
      rw [hu']
      refine ⟨?_, hc.one u (List.mem_of_getElem? hu), hrep⟩
      have hlt : j * sz + i < xs.length := (List.getElem?_eq_some_iff.1 hu).1
      simp only [World.cell?, hg]
      rw [← htk] at hu
      rw [List.getElem?_take] at hu
      split at hu
      · simpa using hu
      · simp at hu

theorem shs_rep {k : Nat} : ∀ {cs : List Ct} {ms : List MV}, shs cs = some ms → cs = ms.map .sh
  | [], ms, h => by simp [shs] at h; subst h; rfl
  | .sh m :: r, ms, h => by
    simp only [shs] at h
    cases hr : shs r with
    | none => rw [hr] at h; simp at h
    | some l => rw [hr] at h; simp at h; subst h; simp [shs_rep (k := k) hr]
  | .own _ _ :: r, ms, h => by simp [shs] at h
  | .al _ :: r, ms, h => by simp [shs] at h
  | .eadr _ _ _ :: r, ms, h => by simp [shs] at h
  | .tupc _ :: r, ms, h => by simp [shs] at h
  | .siter _ _ :: r, ms, h => by simp [shs] at h
  | .dead :: r, ms, h => by simp [shs] at h

theorem load_ok (h : Rel γ ω w nt st a) {T : TypeId} {x : Operand} (hx : loadP P st T x K) : Gives P γ ω w st a.tmps (Instr.loadAt T (a.eval x)) K := by
  unfold loadP at hx
  split at hx
  · exact hx.elim
  rename_i ti hti
  have hT := ty_of hti
  cases x with
  | tmp t =>
    simp only at hx
    split at hx
    · rename_i cs off hc
      have hr := slot_rep h t hc
      generalize a.eval (.tmp t) = v at hr ⊢
      cases hr with
      | cptr _ _ blk o us hω hlt hcell hrep =>
        refine Gives.of_sh ?_
        obtain ⟨m, v, h1, h2, h3⟩ := cut_load (γ := γ) (ω := ω) hT hx blk o us hcell hrep
        exact ⟨m, v, by simp [Instr.loadAt, Instr.sureAddr, h1], h2, h3⟩
    · rename_i k off hc
      have hr := slot_rep h t hc
      generalize a.eval (.tmp t) = v at hr ⊢
      cases hr with
      | ptr _ _ blk hb =>
        split at hx
        · rename_i cs hk
          split at hx
          · rename_i hag
            split at hx
            · rename_i ms hms
              obtain ⟨hle, hx⟩ := hx
              have hms' := shs_rep (k := 0) hms
              have hcells : ∀ j, j < ti.size → ∃ m u, ms[j]? = some m ∧ w.cell? ⟨blk, off + j, none⟩ = some u ∧ u.oneCell' = true ∧ Rep γ ω w m u := by
                intro j hj
                have hlt : off + j < cs.length := by omega
                have hcj : ((cs.drop off).take ti.size)[j]? = some cs[off + j] := by
                  rw [List.getElem?_take, if_pos hj, List.getElem?_drop, List.getElem?_eq_getElem hlt]
                rw [hms', List.getElem?_map] at hcj
                cases hmj : ms[j]? with
                | none => rw [hmj] at hcj; simp at hcj
                | some m =>
                  rw [hmj] at hcj; simp at hcj
                  obtain ⟨blk', u, h1, h2, h3, h4, _, h5, h6⟩ := cell_box h.boxes hk (List.getElem?_eq_getElem hlt)
                  rw [hb] at h1; injection h1 with h1; subst h1
                  rw [← hcj] at h6
                  exact ⟨m, u, rfl, h4, h5, h6⟩
              have hmsl : ms.length = ti.size := by
                have := congrArg List.length hms'
                simp at this; omega
              refine Gives.of_sh ⟨.agg ms, .agg ((List.range ti.size).map fun j => (w.cell? ⟨blk, off + j, none⟩).getD undef).toArray, ?_, ?_, hx⟩
              · have := run_loadVarA (P := P) (w := w) hT hag blk off ((List.range ti.size).map fun j => (w.cell? ⟨blk, off + j, none⟩).getD undef) (by simp) (fun j u hj => by
                  obtain ⟨hlt, hj⟩ := range_map hj
                  obtain ⟨m, u', _, h4, _, _⟩ := hcells j hlt
                  rw [h4] at hj ⊢; simp at hj; rw [hj])
                simp [Instr.loadAt, Instr.sureAddr, this]
              · refine .agg _ _ (by simp [hmsl]) ?_ ?_
                · intro i c v hci hvi
                  have hi : i < ti.size := by rw [← hmsl]; exact (List.getElem?_eq_some_iff.1 hci).1
                  obtain ⟨m, u', h3, h4, _, h6⟩ := hcells i hi
                  simp [List.getElem?_map, List.getElem?_range, hi, h4] at hvi
                  rw [h3] at hci; injection hci with hci; subst hci; subst hvi
                  exact h6
                · intro v hv
                  simp only [List.mem_map, List.mem_range] at hv
                  obtain ⟨j, hj, rfl⟩ := hv
                  obtain ⟨m, u', _, h4, h5, _⟩ := hcells j hj
                  rw [h4]; exact h5
            · exact hx.elim
          · rename_i hag
            have hag' : aggKd ti.kd = false := by simpa using hag
            split at hx
            · rename_i m hm
              obtain ⟨blk', u, h1, h2, h3, h4, _, h5, h6⟩ := cell_box h.boxes hk hm
              rw [hb] at h1; injection h1 with h1; subst h1
              exact .sh (by simp [Instr.loadAt, Instr.sureAddr, run_loadVarT hT hag' blk off u h4]) h6 hx
            · rename_i sz m hm
              obtain ⟨blk', u, h1, h2, h3, h4, _, h5, h6⟩ := cell_box h.boxes hk hm
              rw [hb] at h1; injection h1 with h1; subst h1
              refine ⟨.al (.cell k off), u, by simp [Instr.loadAt, Instr.sureAddr, run_loadVarT hT hag' blk off u h4], fun _ => ⟨⟨sz, m, by simp [St.at, hk, hm]⟩, blk, hb, h4⟩, hx⟩
            · exact hx.elim
        · exact hx.elim
    · rename_i p i off hc
      have hr := slot_rep h t hc
      generalize a.eval (.tmp t) = v at hr ⊢
      obtain ⟨sz, es, u, blk, h1, h2, h3, h4, rfl⟩ := hr
      simp only [h1] at hx
      split at hx
      · rename_i e he
        obtain ⟨cap, _, _, _, us, hus⟩ := own_cells (cur_own h h1 h3) h4
        obtain ⟨hl, hus'⟩ := hus i e he
        refine Gives.of_sh ?_
        obtain ⟨m, v, r1, r2, r3⟩ := cut_load (γ := γ) (ω := ω) hT hx blk (i * sz) (us i) (fun j c hj => ⟨(hus' j c hj).1, (hus' j c hj).2.1⟩) (fun j c hj => (hus' j c hj).2.2)
        exact ⟨m, v, by simp [Instr.loadAt, Instr.sureAddr, r1], r2, r3⟩
      · exact hx.elim
    · exact hx.elim
  | const v => simp at hx
  | func f => simp at hx
  | global g => simp at hx

end
end Go.Pv
