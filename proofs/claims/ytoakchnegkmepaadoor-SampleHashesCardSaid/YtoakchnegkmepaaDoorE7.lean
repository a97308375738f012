/- The library of this work, part E7: operations that do not look into memory may be run early. -/
import Derived.Test.YtoakchnegkmepaaDoorE4
set_option linter.unusedVariables false
set_option linter.unusedSimpArgs false
namespace Go.Pv

section
variable {P : Program} {γ : List Nat} {ω : Own} {w : World} {nt : Nat} {st : St} {a : Act}

theorem sca_val {m : MV} (hm : isSca m = true) {v : Value} (h : Rep γ ω w m v) {γ' : List Nat} {ω' : Own} {w' : World} {v' : Value} (h' : Rep γ' ω' w' m v') : v' = v := by
  cases m <;> simp [isSca] at hm <;> cases h <;> cases h' <;> rfl

theorem binInt_sca {op : BinOp} {k : IntKind} {x y : Int} {K : MV → Prop} (h : binInt op k x y K) : ∃ m, isSca m = true ∧ binInt op k x y (· = m) := by
  cases op <;> first | exact ⟨_, rfl, rfl⟩ | exact ⟨_, rfl, h.1, rfl⟩ | exact h.elim

theorem binP_sca {op : BinOp} {T : TypeId} {k k' : IntKind} {x y : Int} {K : MV → Prop} (h : binP P op T (.int k x) (.int k' y) K) : ∃ m, isSca m = true ∧ binP P op T (.int k x) (.int k' y) (· = m) := by
  unfold binP at h ⊢
  cases op <;> simp only at h ⊢ <;> first
    | exact ⟨_, rfl, h.1, rfl⟩
    | (split at h
       · rename_i e; subst e; simp only [if_true]; exact binInt_sca h
       · exact h.elim)

theorem reg_ok {E : Env} (hE : E.Ok P) (h : Rel γ ω w nt st a) {o : Oper} (hr : regK E st o.op = true) {K : Ct → Prop} (hx : pureP P st o.op K) :
    ∃ c v, (∀ w', (execOp a.eval o).run P w' = .ok (.value v) w') ∧ (∀ o', CtRep γ ω w st a.tmps o' c v) ∧ K c := by
  obtain ⟨c, v, h1, h2, h3⟩ := pure_ok h hx
  refine ⟨c, v, ?_, h2, h3⟩
  have key : (∃ v2, ∀ w', (execOp a.eval o).run P w' = .ok (.value v2) w') → ∀ w', (execOp a.eval o).run P w' = .ok (.value v) w' := by
    rintro ⟨v2, hv⟩
    have := (hv w).symm.trans h1
    injection this with e1
    injection e1 with e2
    subst e2; exact hv
  apply key
  clear key h1 h2 h3 c v
  obtain ⟨dst, op, ty, pos, after, guard⟩ := o
  simp only at hr hx ⊢
  cases op with
  | move x => exact ⟨a.eval x, fun w' => by simp [execOp]⟩
  | extract x i =>
    obtain ⟨c, v, g1, g2, g3⟩ := ext_ok (P := P) h hx
    refine ⟨v, fun w' => ?_⟩
    unfold Instr.extract at g1
    simp only [execOp]
    unfold Instr.extract
    split at g1
    · split at g1
      · injection g1 with e _
        subst e
        first | rfl | simp
      · exact absurd g1 (by simp [stuck, Sem.run])
    · exact absurd g1 (by simp [stuck, Sem.run])
  | fieldAddr T x f =>
    simp only [pureP, faP] at hx
    split at hx
    · rename_i o fT hf
      obtain ⟨hs, hx⟩ := hx
      have fin : ∀ {blk off : Nat}, a.eval x = .pointer (some ⟨blk, off, none⟩) → ∃ v2, ∀ w', (execOp a.eval ⟨dst, .fieldAddr T x f, ty, pos, after, guard⟩).run P w' = .ok (.value v2) w' := by
        intro blk off he
        exact ⟨_, fun w' => by simp only [execOp, he, Sem.run_bind]; rw [run_fieldAt hf hs blk off]; rfl⟩
      cases x with
      | tmp t =>
        simp only at hx
        split at hx
        · rename_i cs off hc
          have hr := slot_rep h t hc
          generalize he : a.eval (.tmp t) = v at hr
          cases hr; exact fin he
        · rename_i k off hc
          have hr := slot_rep h t hc
          generalize he : a.eval (.tmp t) = v at hr
          cases hr; exact fin he
        · rename_i p i off hc
          obtain ⟨sz, es, u, blk, g1, g2, g3, g4, g5⟩ := slot_rep h t hc
          exact fin g5
        · exact hx.elim
      | const v => simp at hx
      | func f => simp at hx
      | global g => simp at hx
    · exact hx.elim
  | indexAddr T x i =>
    simp only [pureP, iaP] at hx
    split at hx
    · rename_i eT hk
      obtain ⟨d, hd, hkd⟩ := und_of_kd hk (by simp)
      have := tk_slice hkd; subst this
      split at hx
      · rename_i k n hn
        obtain ⟨h0, hz, hx⟩ := hx
        have ei := (h.val hn).int
        obtain ⟨ti, hti, hsz⟩ := szOf_ne hz
        have hsl : ∃ blk o len cap, a.eval x = .slice (some ⟨blk, o, none⟩) len cap ∧ n < (len : Int) := by
          cases x with
          | tmp t =>
            simp only at hx
            split at hx
            · rename_i es hc
              obtain ⟨e, he, _, _⟩ := hx
              have hlt : n.toNat < es.length := (List.getElem?_eq_some_iff.1 he).1
              have hr := slot_rep h t hc
              generalize a.eval (.tmp t) = v at hr
              cases hr with
              | list _ sz blk o cap us => exact ⟨_, _, _, _, rfl, by omega⟩
              | list0 A cap => simp at hlt
            · rename_i p hc
              split at hx
              · rename_i sz es hp
                obtain ⟨_, hcur⟩ := slot_rep h t hc
                obtain ⟨blk, cap, _, e⟩ := own_some (cur_own h hp hcur) (by omega)
                exact ⟨_, _, _, _, e, by omega⟩
              · exact hx.elim
            · rename_i sz es hc
              obtain ⟨blk, cap, _, e⟩ := own_some (slot_rep h t hc) (by omega)
              exact ⟨_, _, _, _, e, by omega⟩
            · exact hx.elim
          | const v => simp at hx
          | func f => simp at hx
          | global g => simp at hx
        obtain ⟨blk, o, len, cap, hsl, hlt⟩ := hsl
        have hc : (0 ≤ n ∧ n < (len : Int)) := ⟨h0, hlt⟩
        refine ⟨.pointer (some ⟨blk, o + n.toNat * szOf P eT, none⟩), fun w' => ?_⟩
        have e2 : (Instr.indexAt T (.slice (some ⟨blk, o, none⟩) len cap) (.int k n)).run P w' = .ok (.pointer (some ⟨blk, o + n.toNat * szOf P eT, none⟩)) w' := by
          simp [Instr.indexAt, run_asIntOf, run_underlying hd, hc, run_sizeT (ty_of hti), Addr.add_lit, hsz]
        simp only [execOp, hsl, ei, Sem.run_bind]
        rw [e2]; rfl
      · exact hx.elim
    · exact hx.elim
  | binOp op T x y yT =>
    simp only [regK] at hr
    split at hr
    · rename_i m hm
      split at hr
      · rename_i n hn
        rw [Bool.and_eq_true] at hr
        cases m <;> simp [isInt] at hr
        cases n <;> simp at hr
        rename_i k1 n1 k2 n2
        have e1 := (h.val hm).int
        have e2 := (h.val hn).int
        simp only [pureP, binE] at hx
        split at hx
        · rename_i hnil
          exfalso
          unfold isNilC at hnil
          split at hnil
          · simp [opv, mvConst, mvZero] at hn; simp [MV.top] at hn
          · exact absurd hnil (by simp)
        · rw [hm, hn] at hx
          simp only at hx
          obtain ⟨m0, hs, hb⟩ := binP_sca hx.2
          have at_ : ∀ w', ∃ v, (do eqGuard op T x y (.int k1 n1) (.int k2 n2); binOp op T (.int k1 n1) (.int k2 n2) : Sem Value).run P w' = .ok v w' ∧ Rep γ ω w' m0 v := by
            intro w'
            obtain ⟨m', v', q1, q2, q3⟩ := binP_run (γ := γ) (ω := ω) (w := w') (K := fun m => m = m0) (v1 := .int k1 n1) (v2 := .int k2 n2) (.inl (.int _ _)) (.inl (.int _ _)) hb x y (fun e => by simp at e)
            subst q3; exact ⟨v', q1, q2⟩
          obtain ⟨v, q1, q2⟩ := at_ w
          refine ⟨v, fun w' => ?_⟩
          obtain ⟨v', r1, r2⟩ := at_ w'
          have := sca_val hs q2 r2
          subst this
          simp only [execOp, e1, e2, Sem.run_bind] at r1 ⊢
          rw [r1]; rfl
      · exact absurd hr (by simp)
    · exact absurd hr (by simp)
  | convert s d x =>
    simp only [regK] at hr
    split at hr
    · rename_i k hk
      split at hr
      · rename_i m hm
        cases m <;> simp [isInt] at hr
        rename_i k1 n1
        have e1 := (h.val hm).int
        have hk' := kdE_ok hE hk (by simp)
        simp only [pureP] at hx
        rw [hm] at hx
        simp only at hx
        have hx2 : convP P s d (.int k1 n1) (fun m => m = .int k (k.wrap n1)) := by
          unfold convP at hx ⊢
          rw [hk'] at hx ⊢
          exact ⟨hx.1, rfl⟩
        have at_ : ∀ w', ∃ v, (convert s d (.int k1 n1)).run P w' = .ok v w' ∧ Rep γ ω w' (.int k (k.wrap n1)) v := by
          intro w'
          obtain ⟨m', v', q1, q2, q3⟩ := conv_ok (γ := γ) (ω := ω) (w := w') (v := .int k1 n1) (.inl (.int _ _)) hx2
          subst q3; exact ⟨v', q1, q2⟩
        obtain ⟨v, q1, q2⟩ := at_ w
        refine ⟨v, fun w' => ?_⟩
        obtain ⟨v', r1, r2⟩ := at_ w'
        have := sca_val rfl q2 r2
        subst this
        simp only [execOp, e1, Sem.run_bind]
        rw [r1]; rfl
      · exact absurd hr (by simp)
    · exact absurd hr (by simp)
  | unOp op T x =>
    simp only [regK] at hr
    split at hr
    · rename_i m hm
      simp only [pureP] at hx
      rw [hm] at hx
      simp only at hx
      have fin : ∀ (v : Value) (m0 : MV), a.eval x = v → (∀ w', Val γ ω w' m v) → isSca m0 = true → unP op m (fun m => m = m0) → ∃ v2, ∀ w', (execOp a.eval ⟨dst, .unOp op T x, ty, pos, after, guard⟩).run P w' = .ok (.value v2) w' := by
        intro v m0 e hv hs hu
        have at_ : ∀ w', ∃ v2, (Op.unary op v).run P w' = .ok v2 w' ∧ Rep γ ω w' m0 v2 := by
          intro w'
          obtain ⟨m', v', q1, q2, q3⟩ := un_ok (P := P) (hv w') hu
          subst q3; exact ⟨v', q1, q2⟩
        obtain ⟨v1, q1, q2⟩ := at_ w
        refine ⟨v1, fun w' => ?_⟩
        obtain ⟨v', r1, r2⟩ := at_ w'
        have := sca_val hs q2 r2
        subst this
        simp only [execOp, e, Sem.run_bind]
        rw [r1]; rfl
      unfold unP at hx
      split at hx
      · exact fin _ (.bool _) (h.val hm).bool (fun w' => .inl (.bool _)) rfl rfl
      · exact fin _ (.int _ _) (h.val hm).int (fun w' => .inl (.int _ _)) rfl rfl
      · exact fin _ (.int _ _) (h.val hm).int (fun w' => .inl (.int _ _)) rfl rfl
      · exact hx.elim
    · exact absurd hr (by simp)
  | call c =>
    obtain ⟨callee, args, argTypes⟩ := c
    simp only [regK] at hr
    split at hr
    · split at hr
      · rename_i x hargs
        have hargs' : args = #[x] := by
          have := congrArg List.toArray hargs
          simpa using this
        subst hargs'
        simp only [pureP] at hx
        split at hr
        · rename_i es hm
          rw [hm] at hx
          simp only at hx
          obtain ⟨hx, hne⟩ := hx
          have has : argTypes[0]? = some (argTypes.getD 0 0) := by
            rw [Array.getD_eq_getD_getElem?, Array.getElem?_eq_getElem (by omega)]; rfl
          obtain ⟨A, cap, hv⟩ := (h.val hm).list
          generalize argTypes.getD 0 0 = T at hx has
          unfold lenP at hx
          split at hx
          · rename_i h7; cases h7
          · rename_i e es' hk heq
            obtain ⟨d, hd, hkd⟩ := und_of_kd hk (by simp)
            have := tk_slice hkd; subst this
            refine ⟨.int .i64 es.length, fun w' => ?_⟩
            have e2 : (Builtin.len_ argTypes ty #[.slice A es.length cap]).run P w' = .ok (.int .i64 es.length) w' := by simp [Builtin.len_, has, run_underlying hd, goInt]
            simp [execOp, resolve, invoke, builtin, hv, e2]
          · rename_i h7; cases h7
          · exact hx.elim
        · rename_i es hm
          rw [hm] at hx
          simp only at hx
          obtain ⟨hx, hne⟩ := hx
          have has : argTypes[0]? = some (argTypes.getD 0 0) := by
            rw [Array.getD_eq_getD_getElem?, Array.getElem?_eq_getElem (by omega)]; rfl
          have hv := (h.val hm).str
          generalize argTypes.getD 0 0 = T at hx has
          unfold lenP at hx
          split at hx
          · rename_i s hk heq
            obtain ⟨d, hd, hkd⟩ := und_of_kd hk (by simp)
            have := tk_str hkd; subst this
            refine ⟨.int .i64 es.size, fun w' => ?_⟩
            have e2 : (Builtin.len_ argTypes ty #[.string es]).run P w' = .ok (.int .i64 es.size) w' := by simp [Builtin.len_, has, run_underlying hd, goInt]
            simp [execOp, resolve, invoke, builtin, hv, e2]
          · rename_i h7; cases h7
          · rename_i h7; cases h7
          · exact hx.elim
        · exact absurd hr (by simp)
      · exact absurd hr (by simp)
    · exact absurd hr (by simp)
  | _ => simp [regK] at hr

end
end Go.Pv
