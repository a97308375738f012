/- A library of this session: operations on numbers, bools and strings. -/
import Derived.Test.YtoakchnegkmepaaM2b
import Derived.Laws.Strings
set_option linter.unusedVariables false
set_option linter.unusedSimpArgs false
namespace Go.Pv

theorem bytes_eq (a b : ByteArray) : (a.toList == b.toList) = decide (a = b) := by
  have h : a.toList = b.toList ↔ a = b := by
    constructor
    · intro h
      rw [ByteArray.toList_eq, ByteArray.toList_eq] at h
      exact ByteArray.ext (Array.toList_inj.1 h)
    · intro h; rw [h]
  by_cases e : a = b
  · simp [e]
  · simp [e, h]

def sless (a b : ByteArray) : Bool := Op.bytesLess a.toList b.toList

def bitI (op : BinOp) (k : IntKind) (x y : Int) : Int :=
  let a := BitVec.ofInt k.bits x
  let b := BitVec.ofInt k.bits y
  match op with
  | .and => k.wrap (a &&& b).toNat
  | .or => k.wrap (a ||| b).toNat
  | .xor => k.wrap (a ^^^ b).toNat
  | _ => k.wrap (a &&& ~~~b).toNat

def binInt (op : BinOp) (k : IntKind) (a b : Int) (K : MV → Prop) : Prop :=
  match op with
  | .add => K (.int k (k.wrap (a + b)))
  | .sub => K (.int k (k.wrap (a - b)))
  | .mul => K (.int k (k.wrap (a * b)))
  | .quo => b ≠ 0 ∧ K (.int k (k.wrap (a.tdiv b)))
  | .rem => b ≠ 0 ∧ K (.int k (a.tmod b))
  | .and => K (.int k (bitI .and k a b))
  | .or => K (.int k (bitI .or k a b))
  | .xor => K (.int k (bitI .xor k a b))
  | .andNot => K (.int k (bitI .andNot k a b))
  | .eql => K (.bool (decide (a = b)))
  | .neq => K (.bool (!decide (a = b)))
  | .lss => K (.bool (decide (a < b)))
  | .leq => K (.bool (decide (a ≤ b)))
  | .gtr => K (.bool (decide (a > b)))
  | .geq => K (.bool (decide (a ≥ b)))
  | .shl | .shr => False

def binStr (op : BinOp) (a b : ByteArray) (K : MV → Prop) : Prop :=
  match op with
  | .add => a.size + b.size ≤ 9223372036854775807 ∧ K (.str (a ++ b))
  | .eql => K (.bool (decide (a = b)))
  | .neq => K (.bool (!decide (a = b)))
  | .lss => K (.bool (sless a b))
  | .leq => K (.bool (sless a b || decide (a = b)))
  | .gtr => K (.bool (!(sless a b || decide (a = b))))
  | .geq => K (.bool (!(sless a b)))
  | _ => False

def kdOf (P : Program) (T : TypeId) : TK := match tiOf P T with | some ti => ti.kd | none => .other

theorem und_of_kd {P : Program} {T : TypeId} {k : TK} (h : kdOf P T = k) (hk : k ≠ .other) : ∃ d, P.underlying T = some d ∧ tkOf d = k := by
  unfold kdOf at h
  split at h
  · rename_i ti hti
    obtain ⟨d, h1, h2⟩ := (ty_of hti).und
    exact ⟨d, h1, h2.trans h⟩
  · exact absurd h.symm hk

def binP (P : Program) (op : BinOp) (T : TypeId) (x y : MV) (K : MV → Prop) : Prop :=
  match x, y with
  | .int k a, .int k' b =>
    match op with
    | .shl => 0 ≤ b ∧ K (.int k (k.wrap (a * 2 ^ (min b.toNat k.bits))))
    | .shr => 0 ≤ b ∧ K (.int k (a.fdiv (2 ^ (min b.toNat k.bits))))
    | op => if k = k' then binInt op k a b K else False
  | .str a, .str b => binStr op a b K
  | .bool a, .bool b =>
    match op with
    | .eql => kdOf P T = .bool ∧ K (.bool (a == b))
    | .neq => kdOf P T = .bool ∧ K (.bool (!(a == b)))
    | _ => False
  | .ptr _ _, .nilptr | .cptr _ _, .nilptr =>
    match op with
    | .eql => (∃ e, kdOf P T = .ptr e) ∧ K (.bool false)
    | .neq => (∃ e, kdOf P T = .ptr e) ∧ K (.bool true)
    | _ => False
  | .nilifc, .nilifc =>
    match op with
    | .eql => kdOf P T = .iface ∧ K (.bool true)
    | .neq => kdOf P T = .iface ∧ K (.bool false)
    | _ => False
  | .agg xs, .agg ys => match eqTy P T with
    | some ts => match eqCells ts xs ys with
      | some b => (match op with
        | .eql => K (.bool b)
        | .neq => K (.bool (!b))
        | _ => False)
      | none => False
    | none => False
  | _, _ => False

theorem tk_bool {d : TypeDesc} (h : tkOf d = .bool) : d = .bool := by cases d <;> simp [tkOf] at h ⊢
theorem tk_int {d : TypeDesc} {k : IntKind} (h : tkOf d = .int k) : d = .int k := by cases d <;> simp [tkOf] at h ⊢; exact h
theorem tk_str {d : TypeDesc} (h : tkOf d = .str) : d = .string := by cases d <;> simp [tkOf] at h ⊢
theorem tk_slice {d : TypeDesc} {e : TypeId} (h : tkOf d = .slice e) : d = .slice e := by cases d <;> simp [tkOf] at h ⊢; exact h
theorem tk_ptr {d : TypeDesc} {e : TypeId} (h : tkOf d = .ptr e) : d = .pointer e := by cases d <;> simp [tkOf] at h ⊢; exact h
theorem tk_iface {d : TypeDesc} (h : tkOf d = .iface) : ∃ ms, d = .interface ms := by cases d <;> simp [tkOf] at h ⊢
theorem tk_map {d : TypeDesc} {k e : TypeId} (h : tkOf d = .map k e) : d = .map k e := by cases d <;> simp [tkOf] at h ⊢; exact h
theorem tk_strct {d : TypeDesc} {fs : List (Nat × TypeId)} (h : tkOf d = .strct fs) : ∃ as : Array Field, d = .struct as ∧ fs = as.toList.map fun f => (f.offset, f.type) := by
  cases d <;> simp [tkOf] at h ⊢; exact h.symm

section
variable {P : Program} {γ : List Nat} {ω : Own} {w : World}

theorem run_eqlBool {T : TypeId} {a b : Bool} (hT : kdOf P T = .bool) : (Op.equal T (.bool a) (.bool b)).run P w = .ok (a == b) w := by
  obtain ⟨d, hd, hk⟩ := und_of_kd hT (by simp)
  have := tk_bool hk; subst this
  have key : ∀ n, (Op.equalIn (n + 1) T (.bool a) (.bool b)).run P w = .ok (a == b) w := fun n => by simp [Op.equalIn, run_underlying hd]
  exact key 9999

theorem run_eqlPtr {T e : TypeId} {a : Option Addr} (hT : kdOf P T = .ptr e) : (Op.equal T (.pointer a) (.pointer none)).run P w = .ok a.isNone w := by
  obtain ⟨d, hd, hk⟩ := und_of_kd hT (by simp)
  have := tk_ptr hk; subst this
  have key : ∀ n, (Op.equalIn (n + 1) T (.pointer a) (.pointer none)).run P w = .ok a.isNone w := fun n => by cases a <;> simp [Op.equalIn, run_underlying hd]
  exact key 9999

theorem run_eqlSlice {T e : TypeId} {a : Addr} {n c c' : Nat} (hT : kdOf P T = .slice e) : (Op.equal T (.slice (some a) n c) (.slice none 0 c')).run P w = .ok false w := by
  obtain ⟨d, hd, hk⟩ := und_of_kd hT (by simp)
  have := tk_slice hk; subst this
  have key : ∀ k, (Op.equalIn (k + 1) T (.slice (some a) n c) (.slice none 0 c')).run P w = .ok false w := fun n => by simp [Op.equalIn, run_underlying hd]
  exact key 9999

theorem run_eqlNil {T e : TypeId} (hT : kdOf P T = .slice e) : (Op.equal T (.slice none 0 0) (.slice none 0 0)).run P w = .ok true w := by
  obtain ⟨d, hd, hk⟩ := und_of_kd hT (by simp)
  have := tk_slice hk; subst this
  have key : ∀ k, (Op.equalIn (k + 1) T (.slice none 0 0) (.slice none 0 0)).run P w = .ok true w := fun n => by simp [Op.equalIn, run_underlying hd]
  exact key 9999

theorem run_eqlIfc {T : TypeId} (hT : kdOf P T = .iface) : (Op.equal T .nilIface .nilIface).run P w = .ok true w := by
  obtain ⟨d, hd, hk⟩ := und_of_kd hT (by simp)
  obtain ⟨ms, this⟩ := tk_iface hk; subst this
  have key : ∀ n, (Op.equalIn (n + 1) T .nilIface .nilIface).run P w = .ok true w := fun n => by simp [Op.equalIn, run_underlying hd]
  exact key 9999

theorem binInt_run {op : BinOp} {k : IntKind} {a b : Int} {K : MV → Prop} {T : TypeId} (h : binInt op k a b K) : ∃ m v, (binOp op T (.int k a) (.int k b)).run P w = .ok v w ∧ Rep γ ω w m v ∧ K m := by
  cases op <;> simp only [binInt] at h <;> first
    | exact h.elim
    | (obtain ⟨h0, h⟩ := h; refine ⟨_, _, ?_, .int _ _, h⟩; simp [binOp, Op.intDiv, h0])
    | (refine ⟨_, _, ?_, .int _ _, h⟩; simp [binOp, Op.intArith, Op.intBits, bitI])
    | (refine ⟨_, _, ?_, .bool _, h⟩; simp only [binOp, Op.intCmp, ne_eq, not_true_eq_false, if_false]; rfl)

theorem binStr_run {op : BinOp} {a b : ByteArray} {K : MV → Prop} {T : TypeId} (h : binStr op a b K) : ∃ m v, (binOp op T (.string a) (.string b)).run P w = .ok v w ∧ Rep γ ω w m v ∧ K m := by
  cases op <;> simp only [binStr] at h <;> first
    | exact h.elim
    | (obtain ⟨h0, h⟩ := h
       refine ⟨_, _, ?_, Rep.str _, h⟩
       have : ¬ (((a.size + b.size : Nat) : Int) > IntKind.i64.max) := by simp [IntKind.max, IntKind.bits, IntKind.signed]; omega
       simp only [binOp, Op.stringOp]
       rw [if_neg this]; rfl)
    | (refine ⟨_, _, ?_, Rep.bool _, h⟩; simp [binOp, Op.stringOp, bytes_eq, sless])

theorem eqGuard_int {op : BinOp} {T : TypeId} {x y : Operand} {a b : Value} (h1 : ∀ cs, a ≠ .agg cs) (h2 : a ≠ .nilIface) : (eqGuard op T x y a b).run P w = .ok () w := by
  cases a <;> first
    | exact absurd rfl (h1 _)
    | exact absurd rfl h2
    | (unfold eqGuard; cases op <;> simp)

theorem Rep.noAgg {m : MV} {v : Value} (h : Rep γ ω w m v) (hm : ∀ cs, m ≠ .agg cs) : ∀ cs, v ≠ .agg cs := by
  cases h <;> simp
  · exact absurd rfl (hm _)

theorem binP_run {op : BinOp} {T : TypeId} {m1 m2 : MV} {v1 v2 : Value} {K : MV → Prop} (h1 : Val γ ω w m1 v1) (h2 : Val γ ω w m2 v2) (h : binP P op T m1 m2 K) (x y : Operand)
    (hn : v1 = .nilIface → ∃ c, y = .const c) :
    ∃ m v, (do eqGuard op T x y v1 v2; binOp op T v1 v2 : Sem Value).run P w = .ok v w ∧ Rep γ ω w m v ∧ K m := by
  unfold binP at h
  split at h
  · rename_i k a k' b
    have e1 := h1.int; have e2 := h2.int; subst e1; subst e2
    have hg : (eqGuard op T x y (.int k a) (.int k' b)).run P w = .ok () w := eqGuard_int (by simp) (by simp)
    simp only [Sem.run_bind, hg, Result.andThen_ok]
    split at h
    · obtain ⟨h0, h⟩ := h
      refine ⟨_, _, ?_, .int _ _, h⟩
      simp [binOp, Op.shift, Int.not_lt.2 h0]
    · obtain ⟨h0, h⟩ := h
      refine ⟨_, _, ?_, .int _ _, h⟩
      simp [binOp, Op.shift, Int.not_lt.2 h0]
    · split at h
      · rename_i hk; subst hk; exact binInt_run h
      · exact h.elim
  · rename_i a b
    have e1 := h1.str; have e2 := h2.str; subst e1; subst e2
    have hg : (eqGuard op T x y (.string a) (.string b)).run P w = .ok () w := eqGuard_int (by simp) (by simp)
    simp only [Sem.run_bind, hg, Result.andThen_ok]
    exact binStr_run h
  · rename_i a b
    have e1 := h1.bool; have e2 := h2.bool; subst e1; subst e2
    have hg : (eqGuard op T x y (.bool a) (.bool b)).run P w = .ok () w := eqGuard_int (by simp) (by simp)
    simp only [Sem.run_bind, hg, Result.andThen_ok]
    split at h
    · exact ⟨_, _, by simp [binOp, run_eqlBool h.1], .bool _, h.2⟩
    · exact ⟨_, _, by simp [binOp, run_eqlBool h.1], .bool _, h.2⟩
    · exact h.elim
  · rename_i b off
    obtain ⟨blk, hb, rfl⟩ := h1.ptr
    have e2 : v2 = .pointer none := by rcases h2 with h2 | ⟨_, _, h2⟩ <;> cases h2; rfl
    subst e2
    have hg : ∀ a, (eqGuard op T x y (.pointer a) (.pointer none)).run P w = .ok () w := fun a => eqGuard_int (by simp) (by simp)
    simp only [Sem.run_bind, hg, Result.andThen_ok]
    split at h
    · obtain ⟨⟨e, he⟩, h⟩ := h
      exact ⟨_, _, by simp [binOp, run_eqlPtr he], .bool _, h⟩
    · obtain ⟨⟨e, he⟩, h⟩ := h
      exact ⟨_, _, by simp [binOp, run_eqlPtr he], .bool _, h⟩
    · exact h.elim
  · rename_i b off
    have e1 := h1.cptr
    have e2 : v2 = .pointer none := by rcases h2 with h2 | ⟨_, _, h2⟩ <;> cases h2; rfl
    subst e2
    have hg : ∀ a, (eqGuard op T x y (.pointer a) (.pointer none)).run P w = .ok () w := fun a => eqGuard_int (by simp) (by simp)
    cases e1
    simp only [Sem.run_bind, hg, Result.andThen_ok]
    split at h
    · obtain ⟨⟨e, he⟩, h⟩ := h
      exact ⟨_, _, by simp [binOp, run_eqlPtr he], .bool _, h⟩
    · obtain ⟨⟨e, he⟩, h⟩ := h
      exact ⟨_, _, by simp [binOp, run_eqlPtr he], .bool _, h⟩
    · exact h.elim
  · have e1 : v1 = .nilIface := by rcases h1 with h1 | ⟨_, _, h1⟩ <;> cases h1; rfl
    have e2 : v2 = .nilIface := by rcases h2 with h2 | ⟨_, _, h2⟩ <;> cases h2; rfl
    subst e1; subst e2
    obtain ⟨c, rfl⟩ := hn rfl
    have hg : (eqGuard op T x (.const c) .nilIface .nilIface).run P w = .ok () w := by
      unfold eqGuard; cases op <;> simp
    simp only [Sem.run_bind, hg, Result.andThen_ok]
    split at h
    · exact ⟨_, _, by simp [binOp, run_eqlIfc h.1], .bool _, h.2⟩
    · exact ⟨_, _, by simp [binOp, run_eqlIfc h.1], .bool _, h.2⟩
    · exact h.elim
  · split at h
    · rename_i ts hts
      split at h
      · rename_i b hb
        obtain ⟨g1, g2⟩ := eqTy_run hts h1.agg h2.agg hb x y
        split at h
        · exact ⟨_, _, g1, .bool _, h⟩
        · exact ⟨_, _, g2, .bool _, h⟩
        · exact h.elim
      · exact h.elim
    · exact h.elim
  · exact h.elim

end
end Go.Pv
