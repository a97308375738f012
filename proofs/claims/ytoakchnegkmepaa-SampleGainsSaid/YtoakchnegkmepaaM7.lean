/- A library of this session: indexes, slices, lengths; all operations that change nothing. -/
import Derived.Test.YtoakchnegkmepaaM6
set_option linter.unusedVariables false
set_option linter.unusedSimpArgs false
namespace Go.Pv
section
variable {P : Program} {γ : List Nat} {ω : Own} {w : World} {nt : Nat} {st : St} {a : Act} {K : Ct → Prop}

theorem bAt_get (s : ByteArray) (i : Nat) (h : i < s.size) : s[i]? = some s[i] ∧ bAt s i = ((s[i]).toNat : Int) := by
  refine ⟨by simp [h], ?_⟩
  unfold bAt
  have : s.data.getD i 0 = s[i] := by
    rw [Array.getD_eq_getD_getElem?, Array.getElem?_eq_getElem (by simpa using h)]; rfl
  rw [this]

theorem idx_ok (h : Rel γ ω w nt st a) {T : TypeId} {x i : Operand} (hx : idxP P st T x i (fun m => K (.sh m))) : Gives P γ ω w st a.tmps (Instr.index T (a.eval x) (a.eval i)) K := by
  unfold idxP at hx
  split at hx
  · rename_i hk
    obtain ⟨d, hd, hkd⟩ := und_of_kd hk (by simp)
    have := tk_str hkd; subst this
    split at hx
    · rename_i s k n hs hn
      obtain ⟨h0, hlt, hx⟩ := hx
      have e1 := (h.val hs).str
      have e2 := (h.val hn).int
      rw [e1, e2]
      obtain ⟨g1, g2⟩ := bAt_get s n.toNat hlt
      refine .sh (v := .int .u8 (bAt s n.toNat)) ?_ (.int _ _) hx
      simp [Instr.index, run_asIntOf, run_underlying hd, h0, g1, g2]
    · exact hx.elim
  · exact hx.elim

theorem bnd_ok (h : Rel γ ω w nt st a) {d : Nat} {x : Option Operand} {n : Int} (hx : bndOf st d x = some n) : (x = none ∧ n = d) ∨ ∃ y k, x = some y ∧ a.eval y = .int k n := by
  cases x with
  | none => simp [bndOf] at hx; exact .inl ⟨rfl, hx.symm⟩
  | some y =>
    simp only [bndOf] at hx
    split at hx
    · rename_i k m hm
      injection hx with hx; subst hx
      exact .inr ⟨y, k, rfl, (h.val hm).int⟩
    · exact absurd hx (by simp)

theorem run_bounds (h : Rel γ ω w nt st a) (isS : Bool) (len cap : Nat) (hlc : len ≤ cap) {lo hi : Option Operand} {l u : Int} (hl : bndOf st 0 lo = some l) (hu : bndOf st len hi = some u) (h0 : 0 ≤ l) (h1 : l ≤ u) (h2 : u ≤ (len : Int)) :
    (Instr.sliceBounds isS len cap (lo.map a.eval) (hi.map a.eval) none).run P w = .ok (l.toNat, u.toNat, cap) w := by
  have key : ∀ (k : IntKind) (n : Int) (y : Nat) (c : BoundsCode), 0 ≤ n → n ≤ (y : Int) → (Instr.sliceBound (.int k n) y c).run P w = .ok n.toNat w := by
    intro k n y c g1 g2
    have : 0 ≤ n ∧ n ≤ (y : Int) := ⟨g1, g2⟩
    simp [Instr.sliceBound, run_asIntOf, this]
  have hul : u ≤ (cap : Int) := by omega
  have hlu : l ≤ (u.toNat : Int) := by omega
  rcases bnd_ok h hl with ⟨rfl, rfl⟩ | ⟨y, k, rfl, hy⟩ <;> rcases bnd_ok h hu with ⟨rfl, rfl⟩ | ⟨z, k', rfl, hz⟩
  · simp [Instr.sliceBounds]
  · simp [Instr.sliceBounds, hz, key k' u cap _ (by omega) hul]
  · simp [Instr.sliceBounds, hy, key k l len _ h0 (by omega)]
  · simp [Instr.sliceBounds, hy, hz, key k' u cap _ (by omega) hul, key k l u.toNat _ h0 hlu]

theorem slice_ok (h : Rel γ ω w nt st a) {T : TypeId} {x : Operand} {lo hi : Option Operand} (hx : sliceP P st T x lo hi (fun m => K (.sh m))) : Gives P γ ω w st a.tmps (Instr.sliceAt T (a.eval x) (lo.map a.eval) (hi.map a.eval) none) K := by
  unfold sliceP at hx
  split at hx
  · rename_i hk
    obtain ⟨d, hd, hkd⟩ := und_of_kd hk (by simp)
    have := tk_str hkd; subst this
    split at hx
    · rename_i s hs
      have e1 := (h.val hs).str
      split at hx
      · rename_i l u hl hu
        obtain ⟨h0, h1, h2, hx⟩ := hx
        rw [e1]
        have hb := run_bounds (P := P) h false s.size s.size (Nat.le_refl _) hl hu h0 h1 h2
        refine .sh (v := .string (s.extract l.toNat u.toNat)) ?_ (.str _) hx
        simp [Instr.sliceAt, Instr.slice, run_underlying hd, hb]
      · exact hx.elim
    · exact hx.elim
  · rename_i eT hk
    obtain ⟨d, hd, hkd⟩ := und_of_kd hk (by simp)
    have := tk_slice hkd; subst this
    cases x with
    | tmp t =>
      simp only at hx
      split at hx
      · rename_i es hc
        split at hx
        · rename_i l u hl hu
          obtain ⟨h0, h1, h2, hz, hx⟩ := hx
          obtain ⟨tie, htie, hsze⟩ := szOf_ne hz.2
          have hr := slot_rep h t hc
          generalize a.eval (.tmp t) = v at hr ⊢
          cases hr with
          | list _ sz blk o cap us hcap hω hltb hsz hcell hrep =>
            have hb := run_bounds (P := P) h true es.length cap hcap hl hu h0 h1 h2
            have hrun : (Instr.sliceAt T (.slice (some ⟨blk, o, none⟩) es.length cap) (lo.map a.eval) (hi.map a.eval) none).run P w =
                .ok (.slice (if cap = l.toNat then some ⟨blk, o, none⟩ else some ⟨blk, o + l.toNat * tie.size, none⟩) (u.toNat - l.toNat) (cap - l.toNat)) w := by
              simp [Instr.sliceAt, Instr.slice, run_underlying hd, hb, run_sizeT (ty_of htie), Addr.add_lit]
            refine .sh hrun ?_ hx
            have hlen : ((es.drop l.toNat).take (u.toNat - l.toNat)).length = u.toNat - l.toNat := by simp; omega
            by_cases he : u.toNat - l.toNat = 0
            · have hnil : (es.drop l.toNat).take (u.toNat - l.toNat) = [] := by rw [he]; rfl
              rw [hnil, he]
              exact .list0 _ _
            · have hcl : cap ≠ l.toNat := by omega
              rw [if_neg hcl]
              have hlt : l.toNat < es.length := by omega
              have hszt : sz = tie.size := by
                rw [hsze, ← hz.1 _ (List.getElem?_eq_getElem hlt)]
                exact (hsz _ (List.getElem_mem hlt)).symm
              have := Rep.list (γ := γ) (ω := ω) (w := w) ((es.drop l.toNat).take (u.toNat - l.toNat)) sz blk (o + l.toNat * tie.size) (cap - l.toNat) (fun j i => us (l.toNat + j) i) (by rw [hlen]; omega) hω hltb
                (fun e he => hsz e (List.mem_of_mem_drop (List.mem_of_mem_take he)))
                (fun j e hj i c hi => by
                  rw [List.getElem?_take] at hj
                  split at hj
                  · rw [List.getElem?_drop] at hj
                    have := hcell _ e hj i c hi
                    rw [← hszt, show o + l.toNat * sz + (j * sz + i) = o + ((l.toNat + j) * sz + i) from by rw [Nat.add_mul]; omega]
                    exact this
                  · simp at hj)
                (fun j e hj i c hi => by
                  rw [List.getElem?_take] at hj
                  split at hj
                  · rw [List.getElem?_drop] at hj
                    exact hrep _ e hj i c hi
                  · simp at hj)
              rw [hlen] at this
              exact this
          | list0 A cap =>
            have hb := run_bounds (P := P) h true 0 cap (by omega) hl hu h0 h1 h2
            have h2' : u ≤ 0 := h2
            have hl0 : l.toNat = 0 := by omega
            have hu0 : u.toNat = 0 := by omega
            have hrun : ∃ A', (Instr.sliceAt T (.slice A 0 cap) (lo.map a.eval) (hi.map a.eval) none).run P w = .ok (.slice A' 0 cap) w := by
              refine ⟨if cap = 0 then A else A.map (·.add 0), ?_⟩
              simp [Instr.sliceAt, Instr.slice, run_underlying hd, hb, run_sizeT (ty_of htie), hl0, hu0]
            obtain ⟨A', hrun⟩ := hrun
            refine .sh hrun ?_ hx
            simp
            exact .list0 _ _
        · exact hx.elim
      · exact hx.elim
    | const v => simp at hx
    | func f => simp at hx
    | global g => simp at hx
  · exact hx.elim

theorem ptr_of {m : MV} {v : Value} (h : Rep γ ω w m v) (hm : (∃ k o, m = .ptr k o) ∨ ∃ cs o, m = .cptr cs o) : ∃ b, v = .pointer (some b) := by
  rcases hm with ⟨k, o, rfl⟩ | ⟨cs, o, rfl⟩ <;> cases h <;> exact ⟨_, rfl⟩

theorem nc_ok (h : Rel γ ω w nt st a) {x : Operand} (hx : ncP st x K) (o : Oper) (ho : o.op = .nilCheck x) : ∃ c, (execOp a.eval o).run P w = .ok (.value (a.eval x)) w ∧ (∀ o', CtRep γ ω w st a.tmps o' c (a.eval x)) ∧ K c := by
  cases x with
  | tmp t =>
    simp only [ncP] at hx
    split at hx
    · rename_i k off hc
      have hr := slot_rep h t hc
      refine ⟨.sh (.ptr k off), ?_, fun _ => hr, hx⟩
      obtain ⟨b, hv⟩ := ptr_of hr (.inl ⟨_, _, rfl⟩)
      simp only [execOp, ho, hv]; rfl
    · rename_i cs off hc
      have hr := slot_rep h t hc
      refine ⟨.sh (.cptr cs off), ?_, fun _ => hr, hx⟩
      obtain ⟨b, hv⟩ := ptr_of hr (.inr ⟨_, _, rfl⟩)
      simp only [execOp, ho, hv]; rfl
    · rename_i f cs hc
      have hr := slot_rep h t hc
      refine ⟨.sh (.fn f cs), ?_, fun _ => hr, hx⟩
      have hv : ∃ vs, a.eval (.tmp t) = .func (.func f) #[] vs := by
        generalize a.eval (.tmp t) = v at hr
        cases hr; exact ⟨_, rfl⟩
      obtain ⟨vs, hv⟩ := hv
      simp only [execOp, ho, hv]; rfl
    · rename_i p i off hc
      have hr := slot_rep h t hc
      refine ⟨.eadr p i off, ?_, fun _ => hr, hx⟩
      obtain ⟨sz, es, u, blk, h1, h2, h3, h4, hv⟩ := hr
      simp only [execOp, ho, hv]; rfl
    · exact hx.elim
  | const v => simp [ncP] at hx
  | func f => simp only [ncP] at hx; exact ⟨.sh (.fn f []), by simp only [execOp, ho, Act.eval]; rfl, fun _ => Rep.fn f [] [] rfl (by simp), hx⟩
  | global g => simp [ncP] at hx

theorem Val.map {m : List (MKey × MV)} {v : Value} (h : Val γ ω w (.map m) v) : (m = [] ∧ v = .map none) ∨ ∃ blk es clock, v = .map (some blk) ∧ w.heap[blk]? = some (.map es.toArray clock) ∧ Entries γ ω w m es clock := by
  rcases h with h | ⟨o, sz, h⟩
  · cases h with
    | map _ blk es clock hω hb hl hk hv hlt hbn hnd => exact .inr ⟨blk, es, clock, rfl, hb, ⟨hl, hk, hv, hbn, hnd⟩⟩
    | map0 => exact .inl ⟨rfl, rfl⟩
  · cases h with
    | map _ blk es clock ho hlt hb he => exact .inr ⟨blk, es, clock, rfl, hb, he⟩

theorem len_ok {T : TypeId} {m : MV} {v : Value} (hv : Val γ ω w m v) {K : MV → Prop} (h : lenP P T m K) (ty : TypeId) (as : Array TypeId) (has : as[0]? = some T) :
    ∃ m' v', (Builtin.len_ as ty #[v]).run P w = .ok v' w ∧ Rep γ ω w m' v' ∧ K m' := by
  unfold lenP at h
  split at h
  · rename_i s hk
    obtain ⟨d, hd, hkd⟩ := und_of_kd hk (by simp)
    have := tk_str hkd; subst this
    have e := hv.str; subst e
    exact ⟨_, _, by simp [Builtin.len_, has, run_underlying hd, goInt], .int _ _, h⟩
  · rename_i e es hk
    obtain ⟨d, hd, hkd⟩ := und_of_kd hk (by simp)
    have := tk_slice hkd; subst this
    obtain ⟨A, cap, rfl⟩ := hv.list
    exact ⟨_, _, by simp [Builtin.len_, has, run_underlying hd, goInt], .int _ _, h⟩
  · rename_i k e m hk
    obtain ⟨d, hd, hkd⟩ := und_of_kd hk (by simp)
    have := tk_map hkd; subst this
    rcases hv.map with ⟨rfl, rfl⟩ | ⟨blk, es, clock, rfl, hb, he⟩
    · exact ⟨_, _, by simp [Builtin.len_, has, run_underlying hd, goInt], .int _ _, h⟩
    · refine ⟨_, .int .i64 m.length, ?_, .int _ _, h⟩
      simp [Builtin.len_, has, run_underlying hd, goInt, getObj, Sem.run, hb, he.len]
  · exact h.elim

theorem mm_ok (mx : Bool) {ms : List MV} {vs : List Value} (hl : vs.length = ms.length) (hv : ∀ (i : Nat) (c : MV) (v : Value), ms[i]? = some c → vs[i]? = some v → Val γ ω w c v) {K : MV → Prop} (h : mmP mx ms K) (ty : TypeId) (as : Array TypeId) :
    ∃ m' v', (if mx then Builtin.max_ as ty vs.toArray else Builtin.min_ as ty vs.toArray).run P w = .ok v' w ∧ Rep γ ω w m' v' ∧ K m' := by
  unfold mmP at h
  split at h
  · rename_i k x k' y
    match vs, hl with
    | [u, v], _ =>
      have e1 := (hv 0 _ u rfl rfl).int
      have e2 := (hv 1 _ v rfl rfl).int
      subst e1; subst e2
      refine ⟨_, _, ?_, .int _ _, h⟩
      cases mx <;> simp [Builtin.max_, Builtin.min_, Builtin.max2, Builtin.min2, mm2, List.foldlM]
  · rename_i k x k' y k'' z
    match vs, hl with
    | [u, v, t], _ =>
      have e1 := (hv 0 _ u rfl rfl).int
      have e2 := (hv 1 _ v rfl rfl).int
      have e3 := (hv 2 _ t rfl rfl).int
      subst e1; subst e2; subst e3
      refine ⟨_, _, ?_, .int _ _, h⟩
      cases mx <;> simp [Builtin.max_, Builtin.min_, Builtin.max2, Builtin.min2, mm2, List.foldlM]
  · exact h.elim

theorem noNilIface {m : MV} {v : Value} (h : Val γ ω w m v) (hm : ∀ e, m ≠ e ∨ True) : v = .nilIface → m = .nilifc := by
  intro e
  subst e
  rcases h with h | ⟨_, _, h⟩
  · generalize hv : Value.nilIface = v at h
    cases h <;> first | rfl | exact absurd hv (by simp)
  · generalize hv : Value.nilIface = v at h
    cases h with
    | list _ _ e xs hr hc ho => subst hv; rcases hr.2 with ⟨h1, _⟩ | ⟨g, cap, cur, h1, _⟩ <;> exact absurd h1 (by simp)
    | map => exact absurd hv (by simp)

/-- ALL OPERATIONS THAT CHANGE NOTHING. -/
theorem pure_ok (h : Rel γ ω w nt st a) {o : Oper} (hx : pureP P st o.op K) : ∃ c v, (execOp a.eval o).run P w = .ok (.value v) w ∧ (∀ o', CtRep γ ω w st a.tmps o' c v) ∧ K c := by
  have fin : ∀ {s : Sem Value}, Gives P γ ω w st a.tmps s K → (∀ v, s.run P w = .ok v w → (execOp a.eval o).run P w = .ok (.value v) w) → ∃ c v, (execOp a.eval o).run P w = .ok (.value v) w ∧ (∀ o', CtRep γ ω w st a.tmps o' c v) ∧ K c := by
    rintro s ⟨c, v, h1, h2, h3⟩ hs
    exact ⟨c, v, hs v h1, h2, h3⟩
  obtain ⟨dst, op, ty, pos, after, guard⟩ := o
  cases op with
  | move x => obtain ⟨c, h1, h2⟩ := mov_ok h hx; exact ⟨c, _, by simp [execOp], h1, h2⟩
  | binOp op T x y yT =>
    simp only [pureP, binE] at hx
    split at hx
    · rename_i hnil
      have hy : a.eval y = .slice none 0 0 := by
        unfold isNilC at hnil
        split at hnil
        · rfl
        · exact absurd hnil (by simp)
      split at hx
      · rename_i b hb
        have hxv : (b = true ∧ a.eval x = .slice none 0 0) ∨ (b = false ∧ ∃ ad n c, a.eval x = .slice (some ad) n c) := by
          cases x with
          | tmp t =>
            simp only [nilness] at hb
            split at hb
            · rename_i hc
              injection hb with hb
              have hr : Rep γ ω w .nil (a.eval (.tmp t)) := slot_rep h t hc
              generalize a.eval (.tmp t) = v at hr ⊢
              cases hr; exact .inl ⟨hb.symm, rfl⟩
            · rename_i e es hc
              injection hb with hb
              have hr : Rep γ ω w (.list (e :: es)) (a.eval (.tmp t)) := slot_rep h t hc
              generalize a.eval (.tmp t) = v at hr ⊢
              cases hr; exact .inr ⟨hb.symm, _, _, _, rfl⟩
            · rename_i sz e es hc
              injection hb with hb
              have hr : OwnRep γ ω w _ _ _ (a.eval (.tmp t)) := slot_rep h t hc
              obtain ⟨blk, cap, _, hv⟩ := own_some hr (by simp)
              exact .inr ⟨hb.symm, _, _, _, hv⟩
            · rename_i p hc
              split at hb
              · rename_i sz e es hat
                injection hb with hb
                have hr := slot_rep h t hc
                obtain ⟨_, h2⟩ := hr
                obtain ⟨blk, cap, _, hv⟩ := own_some (cur_own h hat h2) (by simp)
                exact .inr ⟨hb.symm, _, _, _, hv⟩
              · exact absurd hb (by simp)
            · exact absurd hb (by simp)
          | _ => simp [nilness] at hb
        have hrun : ∀ T, (∃ e, kdOf P T = .slice e) → (Op.equal T (a.eval x) (.slice none 0 0)).run P w = .ok b w := by
          rintro T ⟨e, he⟩
          rcases hxv with ⟨rfl, hv⟩ | ⟨rfl, ad, n, c, hv⟩
          · rw [hv]; exact run_eqlNil he
          · rw [hv]; exact run_eqlSlice he
        have hg : (eqGuard op T x y (a.eval x) (.slice none 0 0)).run P w = .ok () w := by
          rcases hxv with ⟨_, hv⟩ | ⟨_, ad, n, c, hv⟩ <;> rw [hv] <;> exact eqGuard_int (by simp) (by simp)
        have hbin : ∀ (v : Value), (op = .eql ∧ v = .bool b) ∨ (op = .neq ∧ v = .bool !b) → (∃ e, kdOf P T = .slice e) → (binOp op T (a.eval x) (.slice none 0 0)).run P w = .ok v w := by
          intro v hv hk
          have := hrun T hk
          rcases hxv with ⟨_, e⟩ | ⟨_, ad, n, c, e⟩ <;> rw [e] at this ⊢ <;> rcases hv with ⟨rfl, rfl⟩ | ⟨rfl, rfl⟩ <;> simp [binOp, this]
        split at hx
        · refine ⟨.sh (.bool b), .bool b, ?_, fun _ => Rep.bool _, hx.2⟩
          simp [execOp, hy, hg, hbin (.bool b) (.inl ⟨rfl, rfl⟩) hx.1]
        · refine ⟨.sh (.bool !b), .bool !b, ?_, fun _ => Rep.bool _, hx.2⟩
          simp [execOp, hy, hg, hbin (.bool !b) (.inr ⟨rfl, rfl⟩) hx.1]
        · exact hx.elim
      · exact hx.elim
    · split at hx
      · rename_i m1 m2 e1 e2
        obtain ⟨hn, hx⟩ := hx
        refine fin (s := do eqGuard op T x y (a.eval x) (a.eval y); binOp op T (a.eval x) (a.eval y)) (Gives.of_sh ?_) (fun v hv => by simp only [execOp, Sem.run_bind] at hv ⊢; rw [hv]; rfl)
        exact binP_run (h.val e1) (h.val e2) hx x y (fun e => by
          have := noNilIface (h.val e1) (fun _ => .inr trivial) e
          subst this
          have hn' := hn rfl
          cases y <;> simp at hn'
          exact ⟨_, rfl⟩)
      · exact hx.elim
  | pick c x y =>
    simp only [pureP] at hx
    split at hx
    · rename_i b e
      have hc := (h.val e).bool
      split at hx
      · rename_i hb
        subst hb
        split at hx
        · rename_i m hm
          exact ⟨.sh m, a.eval x, by simp [execOp, hc, asBool], fun _ => shv_rep h hm, hx⟩
        · exact hx.elim
      · rename_i hb
        have hb' : b = false := by simpa using hb
        subst hb'
        split at hx
        · rename_i m hm
          exact ⟨.sh m, a.eval y, by simp [execOp, hc, asBool], fun _ => shv_rep h hm, hx⟩
        · exact hx.elim
    · exact hx.elim
  | unOp op T x =>
    simp only [pureP] at hx
    split at hx
    · rename_i m e
      exact fin (Gives.of_sh (un_ok (h.val e) hx)) (fun v hv => by simp [execOp, hv])
    · exact hx.elim
  | convert s d x =>
    simp only [pureP] at hx
    split at hx
    · rename_i m e
      exact fin (Gives.of_sh (conv_ok (h.val e) hx)) (fun v hv => by simp [execOp, hv])
    · exact hx.elim
  | extract x i => exact fin (ext_ok h hx) (fun v hv => by simp [execOp, hv])
  | load T x => exact fin (load_ok h hx) (fun v hv => by simp [execOp, hv])
  | fieldAddr T x f => exact fin (fa_ok h hx) (fun v hv => by simp [execOp, hv])
  | field T x f => exact fin (field_ok h hx) (fun v hv => by simp [execOp, hv])
  | indexAddr T x i => exact fin (ia_ok h hx) (fun v hv => by simp [execOp, hv])
  | index T x i => exact fin (idx_ok h hx) (fun v hv => by simp [execOp, hv])
  | slice T x lo hi mx =>
    cases mx with
    | none => exact fin (slice_ok h hx) (fun v hv => by simp [execOp, hv])
    | some y => simp [pureP] at hx
  | nilCheck x =>
    obtain ⟨c, h1, h2, h3⟩ := nc_ok (P := P) h hx ⟨dst, .nilCheck x, ty, pos, after, guard⟩ rfl
    exact ⟨c, _, h1, h2, h3⟩
  | makeFunc fn fs cs =>
    cases fn with
    | func f =>
      simp only [pureP] at hx
      obtain ⟨hf, hx⟩ := hx
      split at hx
      · rename_i ms e
        obtain ⟨h1, h2⟩ := shvs_rep h e
        have hfs : fs = #[] := by simpa using hf
        subst hfs
        refine ⟨.sh (.fn f ms), .func (.func f) #[] (cs.toList.map a.eval).toArray, ?_, fun _ => Rep.fn f ms _ h1 h2, hx⟩
        have : cs.map a.eval = (cs.toList.map a.eval).toArray := Array.ext' (by simp)
        simp [execOp, Instr.makeFunc, this]
      · exact hx.elim
    | _ => simp [pureP] at hx
  | call c =>
    obtain ⟨callee, args, argTypes⟩ := c
    simp only [pureP] at hx
    split at hx
    · split at hx
      · rename_i x hargs
        have hargs' : args = #[x] := by
          have := congrArg List.toArray hargs
          simpa using this
        subst hargs'
        split at hx
        · rename_i m e
          obtain ⟨hx, hne⟩ := hx
          have has : argTypes[0]? = some (argTypes.getD 0 0) := by
            rw [Array.getD_eq_getD_getElem?]
            rw [Array.getElem?_eq_getElem (by omega)]; rfl
          refine fin (Gives.of_sh (len_ok (h.val e) hx ty argTypes has)) (fun v hv => by simp [execOp, resolve, invoke, builtin, hv])
        · exact hx.elim
      · exact hx.elim
    · split at hx
      · rename_i ms e
        obtain ⟨h1, h2⟩ := opvs_val h e
        have := mm_ok (P := P) false h1 h2 hx ty argTypes
        simp only [Bool.false_eq_true, if_false] at this
        refine fin (Gives.of_sh this) (fun v hv => ?_)
        have e' : args.map a.eval = (args.toList.map a.eval).toArray := Array.ext' (by simp)
        simp [execOp, resolve, invoke, builtin, e', hv]
      · exact hx.elim
    · split at hx
      · rename_i ms e
        obtain ⟨h1, h2⟩ := opvs_val h e
        have := mm_ok (P := P) true h1 h2 hx ty argTypes
        simp only [if_true] at this
        refine fin (Gives.of_sh this) (fun v hv => ?_)
        have e' : args.map a.eval = (args.toList.map a.eval).toArray := Array.ext' (by simp)
        simp [execOp, resolve, invoke, builtin, e', hv]
      · exact hx.elim
    · exact hx.elim
  | _ => simp [pureP] at hx

end
end Go.Pv
