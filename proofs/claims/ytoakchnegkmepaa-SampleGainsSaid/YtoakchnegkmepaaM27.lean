/- A library of this session: one equation for each kind of operation. -/
import Derived.Test.YtoakchnegkmepaaM26
set_option linter.unusedVariables false
set_option linter.unusedSimpArgs false
namespace Go.Pv
section
variable (P : Program) (nt : Nat) (fz : List Nat) (st : St) (K : St → Prop) (d : Nat) (ty : TypeId) (pos : String) (after : Array Edge) (g : Option (Nat × Bool)) (od : Option Tmp)

theorem gd_none (ops : Array Oper) (op : Op) : gdP P nt fz ops ⟨od, op, ty, pos, after, none⟩ st K = opP P nt fz ⟨od, op, ty, pos, after, none⟩ st K := rfl

/-- What the guard says. -/
def gOf (st : St) : Option (Option Tmp) → Option Bool
  | some (some d) => match lk st.v d with
    | .sh (.bool b) => some b
    | _ => none
  | _ => none

/-- The guard's own operation was passed over. -/
def gU (st : St) : Option (Option Tmp) → Bool
  | some (some d) => match lk st.v d with
    | .sh (.tup []) => true
    | _ => false
  | _ => false

/-- A guarded operation; gs: the slots of the region's operations. -/
def gdQ (P : Program) (nt : Nat) (fz : List Nat) (gs : List (Option Tmp)) (o : Oper) (st : St) (K : St → Prop) : Prop :=
  match o.guard with
  | none => opP P nt fz o st K
  | some (j, want) => match gOf st gs[j]? with
    | some b => if b = want then opP P nt fz o st K else dOk o.dst nt ∧ K (putO st o.dst (.sh (.tup [])))
    | none => gU st gs[j]? = true ∧ dOk o.dst nt ∧ K (putO st o.dst (.sh (.tup [])))

theorem gdP_Q {P : Program} {nt : Nat} {fz : List Nat} {ops : Array Oper} {o : Oper} {st : St} {K : St → Prop} (h : gdQ P nt fz (ops.toList.map (·.dst)) o st K) : gdP P nt fz ops o st K := by
  unfold gdQ at h
  unfold gdP
  split at h
  · rename_i hg; simp only [hg]; exact h
  · rename_i j want hg
    split at h
    · rename_i b hb
      rw [List.getElem?_map, Array.getElem?_toList] at hb
      cases ho : ops[j]? with
      | none => rw [ho] at hb; simp [gOf] at hb
      | some o' =>
        rw [ho] at hb
        cases hd : o'.dst with
        | none => simp [hd, gOf] at hb
        | some t =>
          simp only [Option.map_some, hd, gOf] at hb
          simp only [hg, ho, Option.bind_some, hd]
          split at hb
          · rename_i b' hl
            injection hb with hb; subst hb
            rw [hl]; exact h
          · exact absurd hb (by simp)
    · obtain ⟨hu, h⟩ := h
      rw [List.getElem?_map, Array.getElem?_toList] at hu
      cases ho : ops[j]? with
      | none => rw [ho] at hu; simp [gU] at hu
      | some o' =>
        rw [ho] at hu
        cases hd : o'.dst with
        | none => simp [hd, gU] at hu
        | some t =>
          simp only [Option.map_some, hd, gU] at hu
          simp only [hg, ho, Option.bind_some, hd]
          split at hu
          · rename_i hl; rw [hl]; exact h
          · exact absurd hu (by simp)

def runQ (P : Program) (nt : Nat) (fz : List Nat) (gs : List (Option Tmp)) : List Oper → St → (St → Prop) → Prop
  | [], st, K => K st
  | o :: r, st, K => gdQ P nt fz gs o st (fun st' => runQ P nt fz gs r st' K)

theorem runQ_ok {P : Program} {nt : Nat} {fz : List Nat} {ops : Array Oper} : ∀ (l : List Oper) (i : Nat), ops.toList.drop i = l → ∀ {γ : List Nat} {ω : Own} {w : World} {st : St} {a : Act}, Rel γ ω w nt st a → ∀ {K : St → Prop}, runQ P nt fz (ops.toList.map (·.dst)) l st K → ∀ (Q : Exit → Act → World → Prop),
    (∀ γ' ω' w' st' a', Chg NotOuter γ ω w γ' ω' w' → Rel γ' ω' w' nt st' a' → K st' → Q .normal a' w') → wpOps P ops Q (List.range' i l.length) a w
  | [], i, hl, γ, ω, w, st, a, h, K, hx, Q, hq => by
    simp only [List.length_nil, List.range'_zero, wpOps]
    exact hq _ _ _ _ _ (Chg.refl _ _ _ _) h hx
  | o :: r, i, hl, γ, ω, w, st, a, h, K, hx, Q, hq => by
    have ho : ops[i]? = some o := by
      have := congrArg (fun l => l[0]?) hl
      simpa [List.getElem?_drop] using this
    have hr : ops.toList.drop (i + 1) = r := by
      rw [← List.drop_drop, hl]; rfl
    simp only [List.length_cons, List.range'_succ]
    refine step_ok ho h (gdP_Q hx) Q _ (fun γ' ω' w' st' a' h1 h2 h3 => ?_)
    exact runQ_ok r (i + 1) hr h2 h3 Q (fun γ2 ω2 w2 st2 a2 g1 g2 g3 => hq _ _ _ _ _ (h1.trans g1) g2 g3)

theorem PW.regQ {P : Program} {nt : Nat} {st : St} {Q : PX → St → Prop} (fz : List Nat) {id : Nat} {ops : Array Oper} (h : runQ P nt fz (ops.toList.map (·.dst)) ops.toList st (fun st' => Q .normal st')) : PW P nt (.region id ops false) st Q := by
  intro γ ω w a R hr hk
  refine wp_region ?_
  have := runQ_ok ops.toList 0 (by simp) hr h R (fun γ' ω' w' st' a' h1 h2 h3 => hk .normal _ _ _ _ _ h1 h2 h3)
  rw [List.range_eq_range']
  simpa using this

theorem PW.sregQ {P : Program} {nt : Nat} {st : St} {Q : PX → St → Prop} (fz : List Nat) {id : Nat} {ops : Array Oper} {y : Code} (h : ∀ K : St → Prop, (∀ st', PW P nt y st' Q → K st') → runQ P nt fz (ops.toList.map (·.dst)) ops.toList st K) : PW P nt (.seq (.region id ops false) y) st Q :=
  PW.seq (fun K hK => PW.regQ fz (h K hK))

theorem runQ_nil (P : Program) (nt : Nat) (fz : List Nat) (gs : List (Option Tmp)) (st : St) (K : St → Prop) : runQ P nt fz gs [] st K = K st := rfl
theorem runQ_none (P : Program) (nt : Nat) (fz : List Nat) (gs : List (Option Tmp)) (od : Option Tmp) (op : Op) (ty : TypeId) (pos : String) (after : Array Edge) (r : List Oper) (st : St) (K : St → Prop) :
    runQ P nt fz gs (⟨od, op, ty, pos, after, none⟩ :: r) st K = opP P nt fz ⟨od, op, ty, "", #[], none⟩ st (fun st' => runQ P nt fz gs r st' K) := rfl
theorem runQ_some (P : Program) (nt : Nat) (fz : List Nat) (gs : List (Option Tmp)) (od : Option Tmp) (op : Op) (ty : TypeId) (pos : String) (after : Array Edge) (j : Nat) (want : Bool) (r : List Oper) (st : St) (K : St → Prop) :
    runQ P nt fz gs (⟨od, op, ty, pos, after, some (j, want)⟩ :: r) st K = (match gOf st gs[j]? with
    | some b => if b = want then opP P nt fz ⟨od, op, ty, "", #[], none⟩ st (fun st' => runQ P nt fz gs r st' K) else dOk od nt ∧ runQ P nt fz gs r (putO st od (.sh (.tup []))) K
    | none => gU st gs[j]? = true ∧ dOk od nt ∧ runQ P nt fz gs r (putO st od (.sh (.tup []))) K) := rfl

/-- One operation of a region; what follows stays out of sight. -/
theorem runQ_step {P : Program} {nt : Nat} {fz : List Nat} {gs : List (Option Tmp)} {od : Option Tmp} {op : Op} {ty : TypeId} {pos : String} {after : Array Edge} {r : List Oper} {st : St} {K : St → Prop}
    (h : ∀ K' : St → Prop, (∀ st', runQ P nt fz gs r st' K → K' st') → opP P nt fz ⟨od, op, ty, "", #[], none⟩ st K') : runQ P nt fz gs (⟨od, op, ty, pos, after, none⟩ :: r) st K := h (fun st' => runQ P nt fz gs r st' K) (fun _ h => h)

theorem runQ_end {P : Program} {nt : Nat} {fz : List Nat} {gs : List (Option Tmp)} {st : St} {K : St → Prop} (h : K st) : runQ P nt fz gs [] st K := h

theorem runQ_guard {P : Program} {nt : Nat} {fz : List Nat} {gs : List (Option Tmp)} {od : Option Tmp} {op : Op} {ty : TypeId} {pos : String} {after : Array Edge} {j : Nat} {want b : Bool} {r : List Oper} {st : St} {K : St → Prop} (hb : gOf st gs[j]? = some b)
    (ht : b = want → ∀ K' : St → Prop, (∀ st', runQ P nt fz gs r st' K → K' st') → opP P nt fz ⟨od, op, ty, "", #[], none⟩ st K') (hf : b ≠ want → dOk od nt ∧ runQ P nt fz gs r (putO st od (.sh (.tup []))) K) : runQ P nt fz gs (⟨od, op, ty, pos, after, some (j, want)⟩ :: r) st K := by
  rw [runQ_some, hb]
  simp only
  split
  · rename_i e; exact ht e (fun st' => runQ P nt fz gs r st' K) (fun _ h => h)
  · rename_i e; exact hf e

theorem runQ_gU {P : Program} {nt : Nat} {fz : List Nat} {gs : List (Option Tmp)} {od : Option Tmp} {op : Op} {ty : TypeId} {pos : String} {after : Array Edge} {j : Nat} {want : Bool} {r : List Oper} {st : St} {K : St → Prop} (hb : gOf st gs[j]? = none) (hu : gU st gs[j]? = true)
    (hf : dOk od nt ∧ runQ P nt fz gs r (putO st od (.sh (.tup []))) K) : runQ P nt fz gs (⟨od, op, ty, pos, after, some (j, want)⟩ :: r) st K := by
  rw [runQ_some, hb]
  exact ⟨hu, hf⟩

theorem runQ_gT {P : Program} {nt : Nat} {fz : List Nat} {gs : List (Option Tmp)} {od : Option Tmp} {op : Op} {ty : TypeId} {pos : String} {after : Array Edge} {j : Nat} {p : Prop} [Decidable p] {r : List Oper} {st : St} {K : St → Prop} (hb : gOf st gs[j]? = some (decide p))
    (ht : p → ∀ K' : St → Prop, (∀ st', runQ P nt fz gs r st' K → K' st') → opP P nt fz ⟨od, op, ty, "", #[], none⟩ st K') (hf : ¬ p → dOk od nt ∧ runQ P nt fz gs r (putO st od (.sh (.tup []))) K) : runQ P nt fz gs (⟨od, op, ty, pos, after, some (j, true)⟩ :: r) st K :=
  runQ_guard hb (fun e => ht (of_decide_eq_true e)) (fun e => hf (fun hp => e (decide_eq_true hp)))

theorem runQ_gF {P : Program} {nt : Nat} {fz : List Nat} {gs : List (Option Tmp)} {od : Option Tmp} {op : Op} {ty : TypeId} {pos : String} {after : Array Edge} {j : Nat} {p : Prop} [Decidable p] {r : List Oper} {st : St} {K : St → Prop} (hb : gOf st gs[j]? = some (decide p))
    (ht : ¬ p → ∀ K' : St → Prop, (∀ st', runQ P nt fz gs r st' K → K' st') → opP P nt fz ⟨od, op, ty, "", #[], none⟩ st K') (hf : p → dOk od nt ∧ runQ P nt fz gs r (putO st od (.sh (.tup []))) K) : runQ P nt fz gs (⟨od, op, ty, pos, after, some (j, false)⟩ :: r) st K :=
  runQ_guard hb (fun e => ht (of_decide_eq_false e)) (fun e => hf (by
    rcases Decidable.em p with h | h
    · exact h
    · exact absurd (decide_eq_false h) e))

theorem op_move (x : Operand) : opP P nt fz ⟨some d, .move x, ty, pos, after, g⟩ st K = (d < nt ∧ movP st x (fun ct => K (st.put d ct))) := rfl
theorem op_assign (x : Operand) : opP P nt fz ⟨some d, .assign x, ty, pos, after, g⟩ st K = (d < nt ∧ asgP P st ty d x K) := rfl
theorem op_bin (op : BinOp) (T T2 : TypeId) (x y : Operand) : opP P nt fz ⟨some d, .binOp op T x y T2, ty, pos, after, g⟩ st K = (d < nt ∧ binE P st op T x y (fun ct => K (st.put d ct))) := rfl
theorem op_pick (c x y : Operand) : opP P nt fz ⟨some d, .pick c x y, ty, pos, after, g⟩ st K = (d < nt ∧ (match opv st c with
    | some (.bool b) => if b = true then (match shv st x with
        | some m => K (st.put d (.sh m))
        | none => False)
      else (match shv st y with
        | some m => K (st.put d (.sh m))
        | none => False)
    | _ => False)) := rfl
theorem op_un (op : UnOp) (T : TypeId) (x : Operand) : opP P nt fz ⟨some d, .unOp op T x, ty, pos, after, g⟩ st K = (d < nt ∧ (match opv st x with
    | some a => unP op a (fun m => K (st.put d (.sh m)))
    | none => False)) := rfl
theorem op_conv (s T : TypeId) (x : Operand) : opP P nt fz ⟨some d, .convert s T x, ty, pos, after, g⟩ st K = (d < nt ∧ (match opv st x, kdOf P T with
    | some (.str b), .slice e => kdOf P e = .int .u8 ∧ kdOf P s = .str ∧ K (st.put d (.sh (.list (byteRow b))))
    | some a, _ => convP P s T a (fun m => K (st.put d (.sh m)))
    | none, _ => False)) := by
  show (_ ∧ (match some d, opv st x, kdOf P T with
      | some d, some (.str _), .slice _ => strB P st d s T x K
      | _, _, _ => (match opv st x with
    | some a => convP P s T a (fun m => K (st.put d (.sh m)))
    | none => False))) = _
  unfold strB
  cases h : opv st x with
  | none => cases h2 : kdOf P T <;> simp [dOk]
  | some m => cases m <;> cases h2 : kdOf P T <;> simp [dOk]
theorem op_extract (x : Operand) (i : Nat) : opP P nt fz ⟨some d, .extract x i, ty, pos, after, g⟩ st K = (d < nt ∧ extP st x i (fun ct => K (st.put d ct))) := rfl
theorem op_load (T : TypeId) (x : Operand) : opP P nt fz ⟨some d, .load T x, ty, pos, after, g⟩ st K = (d < nt ∧ loadP P st T x (fun ct => K (st.put d ct))) := rfl
theorem op_fa (T : TypeId) (x : Operand) (f : Nat) : opP P nt fz ⟨some d, .fieldAddr T x f, ty, pos, after, g⟩ st K = (d < nt ∧ faP P st T x f (fun ct => K (st.put d ct))) := rfl
theorem op_field (T : TypeId) (x : Operand) (f : Nat) : opP P nt fz ⟨some d, .field T x f, ty, pos, after, g⟩ st K = (d < nt ∧ fieldP P st T x f (fun m => K (st.put d (.sh m)))) := rfl
theorem op_ia (T : TypeId) (x i : Operand) : opP P nt fz ⟨some d, .indexAddr T x i, ty, pos, after, g⟩ st K = (d < nt ∧ iaP P st T x i (fun ct => K (st.put d ct))) := rfl
theorem op_idx (T : TypeId) (x i : Operand) : opP P nt fz ⟨some d, .index T x i, ty, pos, after, g⟩ st K = (d < nt ∧ idxP P st T x i (fun m => K (st.put d (.sh m)))) := rfl
theorem op_slice (T : TypeId) (x : Operand) (lo hi : Option Operand) : opP P nt fz ⟨some d, .slice T x lo hi none, ty, pos, after, g⟩ st K = (d < nt ∧ sliceP P st T x lo hi (fun m => K (st.put d (.sh m)))) := rfl
theorem op_nc (x : Operand) : opP P nt fz ⟨some d, .nilCheck x, ty, pos, after, g⟩ st K = (d < nt ∧ ncP st x (fun ct => K (st.put d ct))) := rfl
theorem op_func (f : FuncId) (cs : Array Operand) : opP P nt fz ⟨some d, .makeFunc (.func f) #[] cs, ty, pos, after, g⟩ st K = (d < nt ∧ (match shvs st cs.toList with
    | some ms => K (st.put d (.sh (.fn f ms)))
    | none => False)) := by
  show (_ ∧ ((#[] : Array Operand).size = 0 ∧ _)) = _
  simp only [List.size_toArray, List.length_nil, true_and]; rfl
theorem op_call (f : Operand) (args : Array Operand) (tys : Array TypeId) : opP P nt fz ⟨od, .call ⟨.value f, args, tys⟩, ty, pos, after, g⟩ st K = (dOk od nt ∧ calP P st od f args.toList K) := rfl
theorem op_append (args : Array Operand) (tys : Array TypeId) : opP P nt fz ⟨some d, .call ⟨.builtin .append, args, tys⟩, ty, pos, after, g⟩ st K = (d < nt ∧ appP P st d ⟨.builtin .append, args, tys⟩ K) := rfl
theorem op_len (x : Operand) (T : TypeId) : opP P nt fz ⟨some d, .call ⟨.builtin .len, #[x], #[T]⟩, ty, pos, after, g⟩ st K = (d < nt ∧ (match opv st x with
    | some m => lenP P T m (fun m => K (st.put d (.sh m)))
    | none => False)) := by
  show (_ ∧ (match opv st x with
    | some m => lenP P T m (fun m => K (st.put d (.sh m))) ∧ (#[T] : Array TypeId).size ≠ 0
    | none => False)) = _
  cases opv st x <;> simp; exact fun _ => Iff.rfl
theorem op_min (args : Array Operand) (tys : Array TypeId) : opP P nt fz ⟨some d, .call ⟨.builtin .min, args, tys⟩, ty, pos, after, g⟩ st K = (d < nt ∧ (match opvs st args.toList with
    | some ms => mmP false ms (fun m => K (st.put d (.sh m)))
    | none => False)) := rfl
theorem op_max (args : Array Operand) (tys : Array TypeId) : opP P nt fz ⟨some d, .call ⟨.builtin .max, args, tys⟩, ty, pos, after, g⟩ st K = (d < nt ∧ (match opvs st args.toList with
    | some ms => mmP true ms (fun m => K (st.put d (.sh m)))
    | none => False)) := rfl
theorem op_make (T : TypeId) (l c : Operand) : opP P nt fz ⟨some d, .makeSlice T l c, ty, pos, after, g⟩ st K = (d < nt ∧ mkP P st d T l c K) := rfl
theorem op_bs (T : TypeId) (len : Nat) (parts : Array (Nat × Operand)) : opP P nt fz ⟨some d, .buildSlice T len parts, ty, pos, after, g⟩ st K = (d < nt ∧ bsP P st d T len parts.toList K) := rfl
theorem op_bld (T : TypeId) (parts : Array (Nat × Operand)) : opP P nt fz ⟨some d, .build T parts, ty, pos, after, g⟩ st K = (d < nt ∧ bldP P st (some d) T parts.toList K) := rfl
theorem op_box (T : TypeId) (x : Operand) : opP P nt fz ⟨some d, .box T x, ty, pos, after, g⟩ st K = (d < nt ∧ boxP (memN fz d) st (some d) x K) := rfl
theorem op_alloc (T : TypeId) : opP P nt fz ⟨some d, .alloc T, ty, pos, after, g⟩ st K = (d < nt ∧ aloP P (memN fz d) st (some d) T K) := rfl
theorem op_store (T : TypeId) (ad x : Operand) : opP P nt fz ⟨none, .store T ad x, ty, pos, after, g⟩ st K = stoP P st T ad x K := by
  show (True ∧ (none : Option Tmp) = none ∧ stoP P st T ad x K) = _
  simp

/-! #### Arithmetic -/
variable (k : IntKind) (a b : Int) (T : TypeId) (H : MV → Prop)
theorem bin_add : binP P .add T (.int k a) (.int k b) H = H (.int k (k.wrap (a + b))) := by simp [binP, binInt]
theorem bin_sub : binP P .sub T (.int k a) (.int k b) H = H (.int k (k.wrap (a - b))) := by simp [binP, binInt]
theorem bin_mul : binP P .mul T (.int k a) (.int k b) H = H (.int k (k.wrap (a * b))) := by simp [binP, binInt]
theorem bin_quo : binP P .quo T (.int k a) (.int k b) H = (b ≠ 0 ∧ H (.int k (k.wrap (a.tdiv b)))) := by simp [binP, binInt]
theorem bin_rem : binP P .rem T (.int k a) (.int k b) H = (b ≠ 0 ∧ H (.int k (a.tmod b))) := by simp [binP, binInt]
theorem bin_and : binP P .and T (.int k a) (.int k b) H = H (.int k (bitI .and k a b)) := by simp [binP, binInt]
theorem bin_or : binP P .or T (.int k a) (.int k b) H = H (.int k (bitI .or k a b)) := by simp [binP, binInt]
theorem bin_xor : binP P .xor T (.int k a) (.int k b) H = H (.int k (bitI .xor k a b)) := by simp [binP, binInt]
theorem bin_eql : binP P .eql T (.int k a) (.int k b) H = H (.bool (decide (a = b))) := by simp [binP, binInt]
theorem bin_neq : binP P .neq T (.int k a) (.int k b) H = H (.bool (!decide (a = b))) := by simp only [binP, binInt, if_true]
theorem bin_lss : binP P .lss T (.int k a) (.int k b) H = H (.bool (decide (a < b))) := by simp [binP, binInt]
theorem bin_leq : binP P .leq T (.int k a) (.int k b) H = H (.bool (decide (a ≤ b))) := by simp [binP, binInt]
theorem bin_gtr : binP P .gtr T (.int k a) (.int k b) H = H (.bool (decide (b < a))) := by simp only [binP, binInt, if_true, gt_iff_lt]
theorem bin_geq : binP P .geq T (.int k a) (.int k b) H = H (.bool (decide (b ≤ a))) := by simp only [binP, binInt, if_true, ge_iff_le]
theorem bin_shl (k' : IntKind) : binP P .shl T (.int k a) (.int k' b) H = (0 ≤ b ∧ H (.int k (k.wrap (a * 2 ^ (min b.toNat k.bits))))) := rfl
theorem bin_shr (k' : IntKind) : binP P .shr T (.int k a) (.int k' b) H = (0 ≤ b ∧ H (.int k (a.fdiv (2 ^ (min b.toNat k.bits))))) := rfl
theorem bin_str (op : BinOp) (x y : ByteArray) : binP P op T (.str x) (.str y) H = binStr op x y H := rfl
theorem bin_beq (x y : Bool) : binP P .eql T (.bool x) (.bool y) H = (kdOf P T = .bool ∧ H (.bool (x == y))) := rfl
theorem bin_bne (x y : Bool) : binP P .neq T (.bool x) (.bool y) H = (kdOf P T = .bool ∧ H (.bool (!(x == y)))) := rfl

/-- Both sides are plain. -/
theorem binE_val (op : BinOp) (x y : Operand) (Kc : Ct → Prop) (m n : MV) (hy : isNilC y = false) (hx : opv st x = some m) (hy2 : opv st y = some n) (hm : (m matches .nilifc) = false) :
    binE P st op T x y Kc = binP P op T m n (fun m => Kc (.sh m)) := by
  unfold binE
  rw [hy, hx, hy2]
  simp only [Bool.false_eq_true, if_false]
  cases m <;> simp at hm ⊢

end
end Go.Pv
