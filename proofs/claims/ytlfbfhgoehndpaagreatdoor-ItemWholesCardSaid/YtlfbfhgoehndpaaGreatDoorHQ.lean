/- The library of this work, H texts, part Q: operations that do not look into memory may be run early; values are compared. -/
import Derived.Test.YtlfbfhgoehndpaaGreatDoorHP
set_option linter.unusedVariables false
set_option linter.unusedSimpArgs false
namespace Go.Pv

def isInt : MV → Bool
  | .int _ _ => true
  | _ => false
def isSca : MV → Bool
  | .int _ _ => true
  | .bool _ => true
  | .str _ => true
  | _ => false

/-- May it be run early whatever else is done? -/
def isSca2 : MV → MV → Bool
  | .int _ _, .int _ _ => true
  | .str _, .str _ => true
  | .bool _, .bool _ => true
  | _, _ => false
def regK0 (E : Env) (st : St) (op : Op) : Bool :=
  match op with
  | .move _ => true
  | .extract _ _ => true
  | .fieldAddr _ _ _ => true
  | .indexAddr _ _ _ => true
  | .binOp _ _ x y _ => (match opv st x with
    | some m => (match opv st y with
      | some n => isSca2 m n
      | none => false)
    | none => false)
  | .convert _ d x => (match kdE E d with
    | .int _ => (match opv st x with
      | some m => isInt m
      | none => false)
    | _ => false)
  | .unOp _ _ x => (match opv st x with
    | some m => isSca m
    | none => false)
  | .call c => (match c.callee with
    | .builtin .len => (match c.args.toList with
      | [x] => (match shv st x with
        | some (.list _) => true
        | some (.str _) => true
        | _ => false)
      | _ => false)
    | _ => false)
  | _ => false

/-- A load of what does not change any more. -/
def lodK (st : St) (op : Op) : Bool :=
  match op with
  | .load _ (.tmp t) => (match lk st.v t with
    | .cptr _ _ => true
    | _ => false)
  | _ => false
def regK (E : Env) (st : St) (op : Op) : Bool := match lodK st op with
  | true => true
  | false => regK0 E st op

/-! ### Values are compared -/
def keyB : MKey → MKey → Bool := fun a b => decide (a = b)
mutual
def mvB : MV → MV → Bool
  | .bool a, .bool b => a == b
  | .int k a, .int k' b => decide (k = k') && decide (a = b)
  | .str a, .str b => decide (a = b)
  | .agg a, .agg b => mvBL a b
  | .tup a, .tup b => mvBL a b
  | .list a, .list b => mvBLL a b
  | .nil, .nil => true
  | .fn f a, .fn g b => decide (f = g) && mvBL a b
  | .nilfn, .nilfn => true
  | .ptr a b, .ptr c d => Nat.beq a c && Nat.beq b d
  | .ref a, .ref c => Nat.beq a c
  | .eref a b c d, .eref e f g h => Nat.beq a e && (Nat.beq b f && (Nat.beq c g && Nat.beq d h))
  | .hold a b c, .hold d e f => (a == d) && (Nat.beq b e && mvB c f)
  | .gone, .gone => true
  | .cptr a b, .cptr c d => mvBL a c && Nat.beq b d
  | .nilptr, .nilptr => true
  | .map a, .map b => mvBE a b
  | .ifc t a, .ifc u b => decide (t = u) && mvB a b
  | .nilifc, .nilifc => true
  | .seq f a, .seq g b => decide (f = g) && mvB a b
  | _, _ => false
def mvBL : List MV → List MV → Bool
  | [], [] => true
  | a :: r, b :: q => mvB a b && mvBL r q
  | _, _ => false
def mvBLL : List (List MV) → List (List MV) → Bool
  | [], [] => true
  | a :: r, b :: q => mvBL a b && mvBLL r q
  | _, _ => false
def mvBE : List (MKey × MV) → List (MKey × MV) → Bool
  | [], [] => true
  | (k, a) :: r, (k', b) :: q => keyB k k' && (mvB a b && mvBE r q)
  | _, _ => false
end

mutual
theorem mvB_eq : ∀ (a b : MV), mvB a b = true → a = b
  | .bool a, b, h => by cases b <;> simp [mvB] at h; rw [h]
  | .int k a, b, h => by cases b <;> simp [mvB] at h; rw [h.1, h.2]
  | .str a, b, h => by cases b <;> simp [mvB] at h; rw [h]
  | .agg a, b, h => by cases b <;> simp only [mvB, Bool.false_eq_true] at h; rw [mvBL_eq a _ h]
  | .tup a, b, h => by cases b <;> simp only [mvB, Bool.false_eq_true] at h; rw [mvBL_eq a _ h]
  | .list a, b, h => by cases b <;> simp only [mvB, Bool.false_eq_true] at h; rw [mvBLL_eq a _ h]
  | .nil, b, h => by cases b <;> simp only [mvB, Bool.false_eq_true] at h; rfl
  | .fn f a, b, h => by cases b <;> simp only [mvB, Bool.false_eq_true, Bool.and_eq_true, decide_eq_true_eq] at h; rw [h.1, mvBL_eq a _ h.2]
  | .nilfn, b, h => by cases b <;> simp only [mvB, Bool.false_eq_true] at h; rfl
  | .ptr a c, b, h => by cases b <;> simp only [mvB, Bool.false_eq_true, Bool.and_eq_true] at h; rw [beq_nat h.1, beq_nat h.2]
  | .ref a, b, h => by cases b <;> simp only [mvB, Bool.false_eq_true] at h; rw [beq_nat h]
  | .eref a c d e, b, h => by cases b <;> simp only [mvB, Bool.false_eq_true, Bool.and_eq_true] at h; rw [beq_nat h.1, beq_nat h.2.1, beq_nat h.2.2.1, beq_nat h.2.2.2]
  | .hold a c d, b, h => by cases b <;> simp only [mvB, Bool.false_eq_true, Bool.and_eq_true, beq_iff_eq] at h; rw [h.1, beq_nat h.2.1, mvB_eq d _ h.2.2]
  | .gone, b, h => by cases b <;> simp only [mvB, Bool.false_eq_true] at h; rfl
  | .cptr a c, b, h => by cases b <;> simp only [mvB, Bool.false_eq_true, Bool.and_eq_true] at h; rw [mvBL_eq a _ h.1, beq_nat h.2]
  | .nilptr, b, h => by cases b <;> simp only [mvB, Bool.false_eq_true] at h; rfl
  | .map a, b, h => by cases b <;> simp only [mvB, Bool.false_eq_true] at h; rw [mvBE_eq a _ h]
  | .ifc t a, b, h => by cases b <;> simp only [mvB, Bool.false_eq_true, Bool.and_eq_true, decide_eq_true_eq] at h; rw [h.1, mvB_eq a _ h.2]
  | .nilifc, b, h => by cases b <;> simp only [mvB, Bool.false_eq_true] at h; rfl
  | .seq f a, b, h => by cases b <;> simp only [mvB, Bool.false_eq_true, Bool.and_eq_true, decide_eq_true_eq] at h; rw [h.1, mvB_eq a _ h.2]
theorem mvBL_eq : ∀ (a b : List MV), mvBL a b = true → a = b
  | [], b, h => by cases b <;> simp only [mvBL, Bool.false_eq_true] at h; rfl
  | a :: r, b, h => by cases b <;> simp only [mvBL, Bool.false_eq_true, Bool.and_eq_true] at h; rw [mvB_eq a _ h.1, mvBL_eq r _ h.2]
theorem mvBLL_eq : ∀ (a b : List (List MV)), mvBLL a b = true → a = b
  | [], b, h => by cases b <;> simp only [mvBLL, Bool.false_eq_true] at h; rfl
  | a :: r, b, h => by cases b <;> simp only [mvBLL, Bool.false_eq_true, Bool.and_eq_true] at h; rw [mvBL_eq a _ h.1, mvBLL_eq r _ h.2]
theorem mvBE_eq : ∀ (a b : List (MKey × MV)), mvBE a b = true → a = b
  | [], b, h => by cases b <;> simp only [mvBE, Bool.false_eq_true] at h; rfl
  | (k, a) :: r, b, h => by
    cases b with
    | nil => simp only [mvBE, Bool.false_eq_true] at h
    | cons y q =>
      obtain ⟨k', c⟩ := y
      simp only [mvBE, keyB, Bool.and_eq_true, decide_eq_true_eq] at h
      rw [h.1, mvB_eq a _ h.2.1, mvBE_eq r _ h.2.2]
end
mutual
theorem mvB_self : ∀ (a : MV), mvB a a = true
  | .bool a => by simp [mvB]
  | .int k a => by simp [mvB]
  | .str a => by simp [mvB]
  | .agg a => by simp only [mvB]; exact mvBL_self a
  | .tup a => by simp only [mvB]; exact mvBL_self a
  | .list a => by simp only [mvB]; exact mvBLL_self a
  | .nil => by simp [mvB]
  | .fn f a => by simp [mvB, mvBL_self a]
  | .nilfn => by simp [mvB]
  | .ptr a b => by simp [mvB]
  | .ref a => by simp [mvB]
  | .eref a b c d => by simp [mvB]
  | .hold a b c => by simp [mvB, mvB_self c]
  | .gone => by simp [mvB]
  | .cptr a b => by simp [mvB, mvBL_self a]
  | .nilptr => by simp [mvB]
  | .map a => by simp only [mvB]; exact mvBE_self a
  | .ifc t a => by simp [mvB, mvB_self a]
  | .nilifc => by simp [mvB]
  | .seq f a => by simp [mvB, mvB_self a]
theorem mvBL_self : ∀ (a : List MV), mvBL a a = true
  | [] => by simp [mvBL]
  | a :: r => by simp only [mvBL, Bool.and_eq_true]; exact ⟨mvB_self a, mvBL_self r⟩
theorem mvBLL_self : ∀ (a : List (List MV)), mvBLL a a = true
  | [] => by simp [mvBLL]
  | a :: r => by simp only [mvBLL, Bool.and_eq_true]; exact ⟨mvBL_self a, mvBLL_self r⟩
theorem mvBE_self : ∀ (a : List (MKey × MV)), mvBE a a = true
  | [] => by simp [mvBE]
  | (k, a) :: r => by simp only [mvBE, Bool.and_eq_true, keyB, decide_eq_true_eq]; exact ⟨trivial, mvB_self a, mvBE_self r⟩
end

section
variable {P : Program} {γ : List Value} {ω : Own} {w : World} {nt : Nat} {st : St} {a : Act}

theorem sca_val {m : MV} (hm : isSca m = true) {v : Value} (h : Rep γ ω w m v) {γ' : List Value} {ω' : Own} {w' : World} {v' : Value} (h' : Rep γ' ω' w' m v') : v' = v := by
  cases m <;> simp [isSca] at hm <;> cases h <;> cases h' <;> rfl

theorem binInt_sca {op : BinOp} {k : IntKind} {x y : Int} {K : MV → Prop} (h : binInt op k x y K) : ∃ m, isSca m = true ∧ binInt op k x y (· = m) := by
  cases op <;> first | exact ⟨_, rfl, rfl⟩ | exact ⟨_, rfl, h.1, rfl⟩ | exact h.elim

theorem binStr_sca {op : BinOp} {x y : ByteArray} {K : MV → Prop} (h : binStr op x y K) : ∃ m, isSca m = true ∧ binStr op x y (· = m) := by
  cases op <;> first | exact ⟨_, rfl, rfl⟩ | exact ⟨_, rfl, h.1, rfl⟩ | exact h.elim
theorem binP_sca {op : BinOp} {T : TypeId} {m n : MV} (hmn : isSca2 m n = true) {K : MV → Prop} (h : binP P op T m n K) : ∃ m0, isSca m0 = true ∧ binP P op T m n (· = m0) := by
  cases m <;> cases n <;> first
    | (exfalso; simp [isSca2] at hmn; done)
    | (unfold binP at h ⊢
       cases op <;> simp only at h ⊢ <;> first
        | exact ⟨_, rfl, h.1, rfl⟩
        | exact binStr_sca h
        | exact h.elim
        | (split at h
           · rename_i e; subst e; simp only [if_true]; exact binInt_sca h
           · exact h.elim))

theorem reg_ok0 {E : Env} (hE : E.Ok P) (h : Rel γ ω w nt st a) {o : Oper} (hr : regK0 E st o.op = true) {K : MV → Prop} (hx : pureP P st o.op K) :
    ∃ c v, (∀ w', (execOp a.eval o).run P w' = .ok (.value v) w') ∧ Rep γ ω w c v ∧ K c := by
  obtain ⟨c, v, h1, h2, h3⟩ := pure_ok h hx
  refine ⟨c, v, ?_, h2, h3⟩
  have key : (∃ v2, ∀ w', (execOp a.eval o).run P w' = .ok (.value v2) w') → ∀ w', (execOp a.eval o).run P w' = .ok (.value v) w' := by
    rintro ⟨v2, hv⟩
    have := (hv w).symm.trans h1
    injection this with e1
    injection e1 with e2
    subst e2; exact hv
  apply key
  clear key h1 h2 h3 c v
  obtain ⟨dst, op, ty, pos, after, guard⟩ := o
  simp only at hr hx ⊢
  cases op with
  | move x => exact ⟨a.eval x, fun w' => by simp [execOp]⟩
  | extract x i =>
    obtain ⟨c, v, g1, g2, g3⟩ := ext_ok (P := P) h hx
    refine ⟨v, fun w' => ?_⟩
    unfold Instr.extract at g1
    simp only [execOp]
    unfold Instr.extract
    split at g1
    · split at g1
      · injection g1 with e _
        subst e
        first | rfl | simp
      · exact absurd g1 (by simp [stuck, Sem.run])
    · exact absurd g1 (by simp [stuck, Sem.run])
  | fieldAddr T x f =>
    simp only [pureP, faP] at hx
    split at hx
    · rename_i o fT hf
      obtain ⟨hs, hx⟩ := hx
      have fin : ∀ {blk off : Nat}, a.eval x = .pointer (some ⟨blk, off, none⟩) → ∃ v2, ∀ w', (execOp a.eval ⟨dst, .fieldAddr T x f, ty, pos, after, guard⟩).run P w' = .ok (.value v2) w' := by
        intro blk off he
        exact ⟨_, fun w' => by simp only [execOp, he, Sem.run_bind]; rw [run_fieldAt hf hs blk off]; rfl⟩
      cases x with
      | tmp t =>
        simp only at hx
        split at hx
        · rename_i cs off hc
          have hr := h.slot t hc
          generalize he : a.eval (.tmp t) = v at hr
          cases hr; exact fin he
        · rename_i k off hc
          have hr := h.slot t hc
          generalize he : a.eval (.tmp t) = v at hr
          cases hr; exact fin he
        · rename_i k sz i off hc
          have hr := h.slot t hc
          generalize he : a.eval (.tmp t) = v at hr
          cases hr; exact fin he
        · exact hx.elim
      | const v => simp at hx
      | func f => simp at hx
      | global g => simp at hx
    · exact hx.elim
  | indexAddr T x i =>
    simp only [pureP, iaP] at hx
    split at hx
    · rename_i eT hk
      obtain ⟨d, hd, hkd⟩ := und_of_kd hk (by simp)
      have := tk_slice hkd; subst this
      split at hx
      · rename_i k n hn
        obtain ⟨h0, hz, hx⟩ := hx
        have ei := (h.val hn).int
        obtain ⟨ti, hti, hsz⟩ := szOf_ne hz
        have hsl : ∃ blk o len cap, a.eval x = .slice (some ⟨blk, o, none⟩) len cap ∧ n < (len : Int) := by
          cases x with
          | tmp t =>
            simp only at hx
            split at hx
            · rename_i es hc
              obtain ⟨e, he, _, _⟩ := hx
              have hlt : n.toNat < es.length := (List.getElem?_eq_some_iff.1 he).1
              have hr := h.slot t hc
              generalize a.eval (.tmp t) = v at hr
              cases hr with
              | list _ sz blk o cap us => exact ⟨_, _, _, _, rfl, by omega⟩
              | list0 A cap => simp at hlt
            · rename_i k2 hc
              split at hx
              · rename_i dp sz es foc hk2
                obtain ⟨hlt, hs, hx⟩ := hx
                have hr := h.slot t hc
                generalize a.eval (.tmp t) = v at hr
                cases hr with
                | ref _ _ hb _ _ =>
                  obtain ⟨hd0, g1, e, xs, g2⟩ := h.objs k2 _ hk2
                  rw [hb] at g1; injection g1 with g1; subst g1
                  obtain ⟨blk, cap, hvb, e1⟩ := g2.hasBlk (by omega)
                  exact ⟨_, _, _, _, e1, by omega⟩
              · exact hx.elim
            · exact hx.elim
          | const v => simp at hx
          | func f => simp at hx
          | global g => simp at hx
        obtain ⟨blk, o, len, cap, hsl, hlt⟩ := hsl
        have hc : (0 ≤ n ∧ n < (len : Int)) := ⟨h0, hlt⟩
        refine ⟨.pointer (some ⟨blk, o + n.toNat * szOf P eT, none⟩), fun w' => ?_⟩
        have e2 : (Instr.indexAt T (.slice (some ⟨blk, o, none⟩) len cap) (.int k n)).run P w' = .ok (.pointer (some ⟨blk, o + n.toNat * szOf P eT, none⟩)) w' := by
          simp [Instr.indexAt, run_asIntOf, run_underlying hd, hc, run_sizeT (ty_of hti), Addr.add_lit, hsz]
        simp only [execOp, hsl, ei, Sem.run_bind]
        rw [e2]; rfl
      · exact hx.elim
    · exact hx.elim
  | binOp op T x y yT =>
    simp only [regK0] at hr
    split at hr
    · rename_i m hm
      split at hr
      · rename_i n hn
        simp only [pureP, binE] at hx
        split at hx
        · rename_i hnil
          exfalso
          unfold isNilC at hnil
          split at hnil
          · simp [opv, mvConst, mvZero] at hn; simp [MV.top] at hn; subst hn; cases m <;> simp [isSca2] at hr
          · exact absurd hnil (by simp)
        · rw [hm, hn] at hx
          simp only at hx
          obtain ⟨m0, hs, hb⟩ := binP_sca hr hx.2
          have fin : ∀ {v1 v2 : Value}, a.eval x = v1 → a.eval y = v2 → (∀ w', Val γ ω w' m v1) → (∀ w', Val γ ω w' n v2) → v1 ≠ .nilIface → ∃ v2, ∀ w', (execOp a.eval ⟨dst, .binOp op T x y yT, ty, pos, after, guard⟩).run P w' = .ok (.value v2) w' := by
            intro v1 v2 e1 e2 hv1 hv2 hnn
            have at_ : ∀ w', ∃ v, (do eqGuard op T x y v1 v2; binOp op T v1 v2 : Sem Value).run P w' = .ok v w' ∧ Rep γ ω w' m0 v := by
              intro w'
              obtain ⟨m', v', q1, q2, q3⟩ := binP_run (γ := γ) (ω := ω) (w := w') (K := fun m => m = m0) (hv1 w') (hv2 w') hb x y (fun e => absurd e hnn)
              subst q3; exact ⟨v', q1, q2⟩
            obtain ⟨v, q1, q2⟩ := at_ w
            refine ⟨v, fun w' => ?_⟩
            obtain ⟨v', r1, r2⟩ := at_ w'
            have := sca_val hs q2 r2
            subst this
            simp only [execOp, e1, e2, Sem.run_bind] at r1 ⊢
            rw [r1]; rfl
          cases m <;> cases n <;> first
            | (exfalso; simp [isSca2] at hr; done)
            | exact fin (h.val hm).int (h.val hn).int (fun _ => .inl (.int _ _)) (fun _ => .inl (.int _ _)) (by simp)
            | exact fin (h.val hm).str (h.val hn).str (fun _ => .inl (.str _)) (fun _ => .inl (.str _)) (by simp)
            | exact fin (h.val hm).bool (h.val hn).bool (fun _ => .inl (.bool _)) (fun _ => .inl (.bool _)) (by simp)
      · exact absurd hr (by simp)
    · exact absurd hr (by simp)
  | convert s d x =>
    simp only [regK0] at hr
    split at hr
    · rename_i k hk
      split at hr
      · rename_i m hm
        cases m <;> simp [isInt] at hr
        rename_i k1 n1
        have e1 := (h.val hm).int
        have hk' := kdE_ok hE hk (by simp)
        simp only [pureP] at hx
        rw [hm] at hx
        simp only at hx
        have hx2 : convP P s d (.int k1 n1) (fun m => m = .int k (k.wrap n1)) := by
          unfold convP at hx ⊢
          rw [hk'] at hx ⊢
          exact ⟨hx.1, rfl⟩
        have at_ : ∀ w', ∃ v, (convert s d (.int k1 n1)).run P w' = .ok v w' ∧ Rep γ ω w' (.int k (k.wrap n1)) v := by
          intro w'
          obtain ⟨m', v', q1, q2, q3⟩ := conv_ok (γ := γ) (ω := ω) (w := w') (v := .int k1 n1) (.inl (.int _ _)) hx2
          subst q3; exact ⟨v', q1, q2⟩
        obtain ⟨v, q1, q2⟩ := at_ w
        refine ⟨v, fun w' => ?_⟩
        obtain ⟨v', r1, r2⟩ := at_ w'
        have := sca_val rfl q2 r2
        subst this
        simp only [execOp, e1, Sem.run_bind]
        rw [r1]; rfl
      · exact absurd hr (by simp)
    · exact absurd hr (by simp)
  | unOp op T x =>
    simp only [regK0] at hr
    split at hr
    · rename_i m hm
      simp only [pureP] at hx
      rw [hm] at hx
      simp only at hx
      have fin : ∀ (v : Value) (m0 : MV), a.eval x = v → (∀ w', Val γ ω w' m v) → isSca m0 = true → unP op m (fun m => m = m0) → ∃ v2, ∀ w', (execOp a.eval ⟨dst, .unOp op T x, ty, pos, after, guard⟩).run P w' = .ok (.value v2) w' := by
        intro v m0 e hv hs hu
        have at_ : ∀ w', ∃ v2, (Op.unary op v).run P w' = .ok v2 w' ∧ Rep γ ω w' m0 v2 := by
          intro w'
          obtain ⟨m', v', q1, q2, q3⟩ := un_ok (P := P) (hv w') hu
          subst q3; exact ⟨v', q1, q2⟩
        obtain ⟨v1, q1, q2⟩ := at_ w
        refine ⟨v1, fun w' => ?_⟩
        obtain ⟨v', r1, r2⟩ := at_ w'
        have := sca_val hs q2 r2
        subst this
        simp only [execOp, e, Sem.run_bind]
        rw [r1]; rfl
      unfold unP at hx
      split at hx
      · exact fin _ (.bool _) (h.val hm).bool (fun w' => .inl (.bool _)) rfl rfl
      · exact fin _ (.int _ _) (h.val hm).int (fun w' => .inl (.int _ _)) rfl rfl
      · exact fin _ (.int _ _) (h.val hm).int (fun w' => .inl (.int _ _)) rfl rfl
      · exact hx.elim
    · exact absurd hr (by simp)
  | call c =>
    obtain ⟨callee, args, argTypes⟩ := c
    simp only [regK0] at hr
    split at hr
    · split at hr
      · rename_i x hargs
        have hargs' : args = #[x] := by
          have := congrArg List.toArray hargs
          simpa using this
        subst hargs'
        simp only [pureP] at hx
        split at hr
        · rename_i es hm
          rw [hm] at hx
          simp only at hx
          obtain ⟨hne, hx⟩ := hx
          have has : argTypes[0]? = some (argTypes.getD 0 0) := by
            rw [Array.getD_eq_getD_getElem?, Array.getElem?_eq_getElem (by omega)]; rfl
          obtain ⟨A, cap, hv⟩ := Val.list (.inl (h.shv hm))
          generalize argTypes.getD 0 0 = T at hx has
          cases hk : kdOf P T with
          | slice e =>
            obtain ⟨d, hd, hkd⟩ := und_of_kd hk (by simp)
            have := tk_slice hkd; subst this
            refine ⟨.int .i64 es.length, fun w' => ?_⟩
            have e2 : (Builtin.len_ argTypes ty #[.slice A es.length cap]).run P w' = .ok (.int .i64 es.length) w' := by simp [Builtin.len_, has, run_underlying hd, goInt]
            simp [execOp, resolve, invoke, builtin, hv, e2]
          | _ => rw [hk] at hx; simp [lenC] at hx
        · rename_i es hm
          rw [hm] at hx
          simp only at hx
          obtain ⟨hne, hx⟩ := hx
          have has : argTypes[0]? = some (argTypes.getD 0 0) := by
            rw [Array.getD_eq_getD_getElem?, Array.getElem?_eq_getElem (by omega)]; rfl
          have hv := Val.str (.inl (h.shv hm))
          generalize argTypes.getD 0 0 = T at hx has
          cases hk : kdOf P T with
          | str =>
            obtain ⟨d, hd, hkd⟩ := und_of_kd hk (by simp)
            have := tk_str hkd; subst this
            refine ⟨.int .i64 es.size, fun w' => ?_⟩
            have e2 : (Builtin.len_ argTypes ty #[.string es]).run P w' = .ok (.int .i64 es.size) w' := by simp [Builtin.len_, has, run_underlying hd, goInt]
            simp [execOp, resolve, invoke, builtin, hv, e2]
          | _ => rw [hk] at hx; simp [lenC] at hx
        · exact absurd hr (by simp)
      · exact absurd hr (by simp)
    · exact absurd hr (by simp)
  | _ => simp [regK0] at hr

theorem lod_ok (h : Rel γ ω w nt st a) {o : Oper} (hr : lodK st o.op = true) {K : MV → Prop} (hx : pureP P st o.op K) :
    ∃ c v, (∀ γ' ω' w', Keeps γ ω w γ' ω' w' → (execOp a.eval o).run P w' = .ok (.value v) w') ∧ Rep γ ω w c v ∧ K c := by
  obtain ⟨dst, op, ty, pos, after, guard⟩ := o
  simp only at hr hx ⊢
  unfold lodK at hr
  split at hr
  · rename_i T t
    split at hr
    · rename_i cs off hc
      simp only [pureP, loadP] at hx
      split at hx
      · exact hx.elim
      rename_i ti hti
      rw [hc] at hx
      simp only at hx
      have hrp := h.slot t hc
      generalize he : a.eval (.tmp t) = u at hrp
      cases hrp with
      | cptr _ _ blk o us hω hlt hn hcell hrep =>
        obtain ⟨m, v, h1, h2, h3⟩ := cut_loadK (γ := γ) (ω := ω) (w := w) (ty_of hti) hx blk o us (fun i c hi => (hcell i c hi).2) hrep
        refine ⟨m, v, fun γ' ω' w' hk => ?_, h2, h3⟩
        have hb := (hk.none blk hlt hω).1
        have h1' := h1 w' (fun i c hi => by rw [cell_of_heap hb]; exact (hcell i c hi).1)
        simp [execOp, he, Instr.loadAt, Instr.sureAddr, h1']
    · exact absurd hr (by simp)
  · exact absurd hr (by simp)
theorem reg_ok {E : Env} (hE : E.Ok P) (h : Rel γ ω w nt st a) {o : Oper} (hr : regK E st o.op = true) {K : MV → Prop} (hx : pureP P st o.op K) :
    ∃ c v, (∀ γ' ω' w', Keeps γ ω w γ' ω' w' → (execOp a.eval o).run P w' = .ok (.value v) w') ∧ Rep γ ω w c v ∧ K c := by
  unfold regK at hr
  split at hr
  · rename_i hl; exact lod_ok h hl hx
  · obtain ⟨c, v, h1, h2, h3⟩ := reg_ok0 hE h hr hx
    exact ⟨c, v, fun _ _ w' _ => h1 w', h2, h3⟩
end
end Go.Pv
