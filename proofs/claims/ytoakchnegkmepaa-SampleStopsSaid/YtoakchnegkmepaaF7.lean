/- Contracts of checks; the closed check drawn. -/
import Derived.Test.YtoakchnegkmepaaF6
set_option linter.unusedSimpArgs false
set_option linter.unusedVariables false
set_option maxRecDepth 100000
set_option maxHeartbeats 4000000
namespace Go.Pv
open Go Go.Proofs
attribute [local irreducible] PW Dr DrS DrN DrG DrH Spec SpecB runQ opP calP gdP Still

/-- What is read later. -/
def kt_76 : List (Nat × List Nat) := [(0, [0, 1]), (1, [0, 1, 6]), (2, [0, 1, 6, 14]), (3, [4, 5]), (4, [4, 5])]
theorem Hash_spec (id seed : ByteArray) (h1 : id.size < 4611686018427387904) (h2 : seed.size < 4611686018427387904) (h3 : (seed ++ ⟨#[32]⟩ ++ id).size < 4611686018427387904) (hk : keyV id = true) (hk2 : keyV seed = true) :
    Spec Try.prog 76 [.str id, .str seed] [(none, .int .i64 (hashV id seed)), (none, .int .i64 0)] := by
  have e1 := keyError_spec id h1
  have e2 := keyError_spec seed h2
  rw [hk] at e1
  rw [hk2] at e2
  have e3 := First_spec [0, 0] (by decide)
  refine spec_of (nt := 19) (rs := [.tmp 4, .tmp 5]) Try.func76 rfl rfl rfl rfl (by simp) (by simp [np]) (fun B => ?_)
  repeat' first
    | exact True.intro
    | refine runQ_step (fun K hK => ?_)
    | refine runQ_end ?_
    | refine PW.sregN kt_76 [] (fun K hK => ?_)
    | simp only [push_cast, ↓reduceIte, Nat.reduceAdd, Nat.reduceSub, Nat.reduceMul, Nat.reduceEqDiff, Nat.reduceLT, Nat.reduceLeDiff, Int.reduceToNat, reduceCtorEq, Int.reduceEq, Int.reduceLT, Int.reduceLE, Int.reduceAdd, Int.reduceSub, Int.reduceMul, Int.reduceNeg, MV.top, kt_76, ti1, ti2, ti3, ti4, ti9, ti32, ti97, Bool.not_true, whenV]
    | refine And.intro ?_ ?_
    | (refine hK _ ?_; clear hK K)
    | (refine hK _ ?_ ?_ <;> clear hK K)
    | apply_assumption (exfalso := false) (symm := false) only [*]
    | refine calP_lent rfl rfl e1 rfl ?_
    | refine calP_lent rfl rfl e2 rfl ?_
    | refine calP_lent rfl rfl e3 rfl ?_
    | refine calP_lent rfl rfl (hash_spec _ _ h3) rfl ?_
    | refine PW.seq (fun K hK => ?_)
    | refine PW.ret ?_
    | refine PW.skip ?_
    | refine PW.exit ?_
    | refine PW.block ?_
    | refine PW.condT rfl ?_
    | refine PW.condF rfl ?_
    | (refine PW.condD rfl (fun hc => ?_) (fun hc => ?_) <;> first | (exfalso; omega) | skip)
    | (refine PW.condN rfl (fun hc => ?_) (fun hc => ?_) <;> first | (exfalso; omega) | skip)
    | refine PW.cond rfl (fun hc => ?_) (fun hc => ?_)
    | refine PW.regQ [] ?_
    | refine PW.sdrawG kt_76 sc_76 [] hmix (by kernel_rfl) (fun K hK => ?_)
    | refine PW.drawG sc_76 [] hmix (by kernel_rfl) (fun K hK => ?_)
    | refine PW.label ?_
    | omega
    | (split <;> first | contradiction | skip)

def levelOk (num den : Int) : Bool := inV den 2 1000 && inV num 1 (den - 1)
def fracV (num den : Int) : MV := .agg [.int .i64 num, .int .i64 den]

/-- What is read later. -/
def kt_17 : List (Nat × List Nat) := [(0, [1]), (1, [2])]
theorem CheckLevel_spec (num den : Int) : Spec Try.prog 17 [fracV num den] [(none, .int .i64 (whenV (!levelOk num den) 1))] := by
  unfold fracV
  cases q1 : inV den 2 1000 with
  | false =>
    have hr : levelOk num den = false := by simp [levelOk, q1]
    rw [hr]
    refine spec_of (nt := 17) (rs := [.tmp 2]) Try.func17 rfl rfl rfl rfl (by simp) (by simp [np]) (fun B => ?_)
    repeat' first
      | exact True.intro
      | refine runQ_step (fun K hK => ?_)
      | refine runQ_end ?_
      | refine PW.sregN kt_17 [1] (fun K hK => ?_)
      | simp only [push_cast, ↓reduceIte, Nat.reduceAdd, Nat.reduceSub, Nat.reduceMul, Nat.reduceEqDiff, Nat.reduceLT, Nat.reduceLeDiff, Int.reduceToNat, reduceCtorEq, Int.reduceEq, Int.reduceLT, Int.reduceLE, Int.reduceAdd, Int.reduceSub, Int.reduceMul, Int.reduceNeg, MV.top, kt_17, ti1, ti3, ti4, ti30, ti32, eqt30, q1]
      | refine And.intro ?_ ?_
      | (refine hK _ ?_; clear hK K)
      | (refine hK _ ?_ ?_ <;> clear hK K)
      | apply_assumption (exfalso := false) (symm := false) only [*]
      | refine runQ_gC rfl (fun K hK => ?_)
      | refine runQ_gS rfl rfl ?_
      | refine runQ_gU rfl rfl ?_
      | (refine runQ_gT rfl (fun hc K hK => ?_) (fun hc => ?_) <;> first | (exfalso; omega) | skip)
      | (refine runQ_gF rfl (fun hc K hK => ?_) (fun hc => ?_) <;> first | (exfalso; omega) | skip)
      | refine runQ_guard rfl (fun hc K hK => ?_) (fun hc => ?_)
      | refine calP_lent rfl rfl (In_spec _ _ _) rfl ?_
      | refine calP_lent rfl rfl (When_spec _ _) rfl ?_
      | refine PW.seq (fun K hK => ?_)
      | refine PW.ret ?_
      | refine PW.skip ?_
      | refine PW.exit ?_
      | refine PW.block ?_
      | refine PW.condT rfl ?_
      | refine PW.condF rfl ?_
      | (refine PW.condD rfl (fun hc => ?_) (fun hc => ?_) <;> first | (exfalso; omega) | skip)
      | (refine PW.condN rfl (fun hc => ?_) (fun hc => ?_) <;> first | (exfalso; omega) | skip)
      | refine PW.cond rfl (fun hc => ?_) (fun hc => ?_)
      | refine PW.regQ [1] ?_
      | refine PW.sdrawG kt_17 sc_17 [1] hmix (by kernel_rfl) (fun K hK => ?_)
      | refine PW.drawG sc_17 [1] hmix (by kernel_rfl) (fun K hK => ?_)
      | refine PW.label ?_
      | omega
      | (split <;> first | contradiction | skip)
  | true =>
    have hb : 2 ≤ den ∧ den ≤ 1000 := by simpa [inV] using q1
    have hw : IntKind.i64.wrap (den - 1) = den - 1 := wrap_id (by omega) (by omega)
    cases q2 : inV num 1 (den - 1) with
    | false =>
      have hr : levelOk num den = false := by simp [levelOk, q1, q2]
      rw [hr]
      refine spec_of (nt := 17) (rs := [.tmp 2]) Try.func17 rfl rfl rfl rfl (by simp) (by simp [np]) (fun B => ?_)
      repeat' first
        | exact True.intro
        | refine runQ_step (fun K hK => ?_)
        | refine runQ_end ?_
        | refine PW.sregN kt_17 [1] (fun K hK => ?_)
        | simp only [push_cast, ↓reduceIte, Nat.reduceAdd, Nat.reduceSub, Nat.reduceMul, Nat.reduceEqDiff, Nat.reduceLT, Nat.reduceLeDiff, Int.reduceToNat, reduceCtorEq, Int.reduceEq, Int.reduceLT, Int.reduceLE, Int.reduceAdd, Int.reduceSub, Int.reduceMul, Int.reduceNeg, MV.top, kt_17, ti1, ti3, ti4, ti30, ti32, eqt30, q1, q2, hw]
        | refine And.intro ?_ ?_
        | (refine hK _ ?_; clear hK K)
        | (refine hK _ ?_ ?_ <;> clear hK K)
        | apply_assumption (exfalso := false) (symm := false) only [*]
        | refine runQ_gC rfl (fun K hK => ?_)
        | refine runQ_gS rfl rfl ?_
        | refine runQ_gU rfl rfl ?_
        | (refine runQ_gT rfl (fun hc K hK => ?_) (fun hc => ?_) <;> first | (exfalso; omega) | skip)
        | (refine runQ_gF rfl (fun hc K hK => ?_) (fun hc => ?_) <;> first | (exfalso; omega) | skip)
        | refine runQ_guard rfl (fun hc K hK => ?_) (fun hc => ?_)
        | refine calP_lent rfl rfl (In_spec _ _ _) rfl ?_
        | refine calP_lent rfl rfl (When_spec _ _) rfl ?_
        | refine PW.seq (fun K hK => ?_)
        | refine PW.ret ?_
        | refine PW.skip ?_
        | refine PW.exit ?_
        | refine PW.block ?_
        | refine PW.condT rfl ?_
        | refine PW.condF rfl ?_
        | (refine PW.condD rfl (fun hc => ?_) (fun hc => ?_) <;> first | (exfalso; omega) | skip)
        | (refine PW.condN rfl (fun hc => ?_) (fun hc => ?_) <;> first | (exfalso; omega) | skip)
        | refine PW.cond rfl (fun hc => ?_) (fun hc => ?_)
        | refine PW.regQ [1] ?_
        | refine PW.sdrawG kt_17 sc_17 [1] hmix (by kernel_rfl) (fun K hK => ?_)
        | refine PW.drawG sc_17 [1] hmix (by kernel_rfl) (fun K hK => ?_)
        | refine PW.label ?_
        | omega
        | (split <;> first | contradiction | skip)
    | true =>
      have hr : levelOk num den = true := by simp [levelOk, q1, q2]
      rw [hr]
      refine spec_of (nt := 17) (rs := [.tmp 2]) Try.func17 rfl rfl rfl rfl (by simp) (by simp [np]) (fun B => ?_)
      repeat' first
        | exact True.intro
        | refine runQ_step (fun K hK => ?_)
        | refine runQ_end ?_
        | refine PW.sregN kt_17 [1] (fun K hK => ?_)
        | simp only [push_cast, ↓reduceIte, Nat.reduceAdd, Nat.reduceSub, Nat.reduceMul, Nat.reduceEqDiff, Nat.reduceLT, Nat.reduceLeDiff, Int.reduceToNat, reduceCtorEq, Int.reduceEq, Int.reduceLT, Int.reduceLE, Int.reduceAdd, Int.reduceSub, Int.reduceMul, Int.reduceNeg, MV.top, kt_17, ti1, ti3, ti4, ti30, ti32, eqt30, q1, q2, hw]
        | refine And.intro ?_ ?_
        | (refine hK _ ?_; clear hK K)
        | (refine hK _ ?_ ?_ <;> clear hK K)
        | apply_assumption (exfalso := false) (symm := false) only [*]
        | refine runQ_gC rfl (fun K hK => ?_)
        | refine runQ_gS rfl rfl ?_
        | refine runQ_gU rfl rfl ?_
        | (refine runQ_gT rfl (fun hc K hK => ?_) (fun hc => ?_) <;> first | (exfalso; omega) | skip)
        | (refine runQ_gF rfl (fun hc K hK => ?_) (fun hc => ?_) <;> first | (exfalso; omega) | skip)
        | refine runQ_guard rfl (fun hc K hK => ?_) (fun hc => ?_)
        | refine calP_lent rfl rfl (In_spec _ _ _) rfl ?_
        | refine calP_lent rfl rfl (When_spec _ _) rfl ?_
        | refine PW.seq (fun K hK => ?_)
        | refine PW.ret ?_
        | refine PW.skip ?_
        | refine PW.exit ?_
        | refine PW.block ?_
        | refine PW.condT rfl ?_
        | refine PW.condF rfl ?_
        | (refine PW.condD rfl (fun hc => ?_) (fun hc => ?_) <;> first | (exfalso; omega) | skip)
        | (refine PW.condN rfl (fun hc => ?_) (fun hc => ?_) <;> first | (exfalso; omega) | skip)
        | refine PW.cond rfl (fun hc => ?_) (fun hc => ?_)
        | refine PW.regQ [1] ?_
        | refine PW.sdrawG kt_17 sc_17 [1] hmix (by kernel_rfl) (fun K hK => ?_)
        | refine PW.drawG sc_17 [1] hmix (by kernel_rfl) (fun K hK => ?_)
        | refine PW.label ?_
        | omega
        | (split <;> first | contradiction | skip)

def drawnOk (p s f : Int) : Bool := inV p 1 2000 && inV s 1 (mm2 false 60 p) && inV f 0 s
def drawnM (p s f : Int) : MV := .agg [.int .i64 p, .int .i64 s, .int .i64 f]

/-- What is read later. -/
def kt_19 : List (Nat × List Nat) := [(0, [1]), (1, [2])]
theorem CheckDrawn_spec (p s f : Int) : Spec Try.prog 19 [drawnM p s f] [(none, .int .i64 (whenV (!drawnOk p s f) 1))] := by
  unfold drawnM
  cases q1 : inV p 1 2000 with
  | false =>
    have hr : drawnOk p s f = false := by simp [drawnOk, q1]
    rw [hr]
    refine spec_of (nt := 25) (rs := [.tmp 2]) Try.func19 rfl rfl rfl rfl (by simp) (by simp [np]) (fun B => ?_)
    repeat' first
      | exact True.intro
      | refine runQ_step (fun K hK => ?_)
      | refine runQ_end ?_
      | refine PW.sregN kt_19 [1] (fun K hK => ?_)
      | simp only [push_cast, ↓reduceIte, Nat.reduceAdd, Nat.reduceSub, Nat.reduceMul, Nat.reduceEqDiff, Nat.reduceLT, Nat.reduceLeDiff, Int.reduceToNat, reduceCtorEq, Int.reduceEq, Int.reduceLT, Int.reduceLE, Int.reduceAdd, Int.reduceSub, Int.reduceMul, Int.reduceNeg, MV.top, kt_19, ti1, ti2, ti3, ti4, ti27, ti32, eqt27, q1]
      | refine And.intro ?_ ?_
      | (refine hK _ ?_; clear hK K)
      | (refine hK _ ?_ ?_ <;> clear hK K)
      | apply_assumption (exfalso := false) (symm := false) only [*]
      | refine runQ_gC rfl (fun K hK => ?_)
      | refine runQ_gS rfl rfl ?_
      | refine runQ_gU rfl rfl ?_
      | (refine runQ_gT rfl (fun hc K hK => ?_) (fun hc => ?_) <;> first | (exfalso; omega) | skip)
      | (refine runQ_gF rfl (fun hc K hK => ?_) (fun hc => ?_) <;> first | (exfalso; omega) | skip)
      | refine runQ_guard rfl (fun hc K hK => ?_) (fun hc => ?_)
      | refine calP_lent rfl rfl (In_spec _ _ _) rfl ?_
      | refine calP_lent rfl rfl (When_spec _ _) rfl ?_
      | refine PW.seq (fun K hK => ?_)
      | refine PW.ret ?_
      | refine PW.skip ?_
      | refine PW.exit ?_
      | refine PW.block ?_
      | refine PW.condT rfl ?_
      | refine PW.condF rfl ?_
      | (refine PW.condD rfl (fun hc => ?_) (fun hc => ?_) <;> first | (exfalso; omega) | skip)
      | (refine PW.condN rfl (fun hc => ?_) (fun hc => ?_) <;> first | (exfalso; omega) | skip)
      | refine PW.cond rfl (fun hc => ?_) (fun hc => ?_)
      | refine PW.regQ [1] ?_
      | refine PW.sdrawG kt_19 sc_19 [1] hmix (by kernel_rfl) (fun K hK => ?_)
      | refine PW.drawG sc_19 [1] hmix (by kernel_rfl) (fun K hK => ?_)
      | refine PW.label ?_
      | omega
      | (split <;> first | contradiction | skip)
  | true =>
    cases q2 : inV s 1 (mm2 false 60 p) with
    | false =>
      have hr : drawnOk p s f = false := by simp [drawnOk, q1, q2]
      rw [hr]
      refine spec_of (nt := 25) (rs := [.tmp 2]) Try.func19 rfl rfl rfl rfl (by simp) (by simp [np]) (fun B => ?_)
      repeat' first
        | exact True.intro
        | refine runQ_step (fun K hK => ?_)
        | refine runQ_end ?_
        | refine PW.sregN kt_19 [1] (fun K hK => ?_)
        | simp only [push_cast, ↓reduceIte, Nat.reduceAdd, Nat.reduceSub, Nat.reduceMul, Nat.reduceEqDiff, Nat.reduceLT, Nat.reduceLeDiff, Int.reduceToNat, reduceCtorEq, Int.reduceEq, Int.reduceLT, Int.reduceLE, Int.reduceAdd, Int.reduceSub, Int.reduceMul, Int.reduceNeg, MV.top, kt_19, ti1, ti2, ti3, ti4, ti27, ti32, eqt27, q1, q2]
        | refine And.intro ?_ ?_
        | (refine hK _ ?_; clear hK K)
        | (refine hK _ ?_ ?_ <;> clear hK K)
        | apply_assumption (exfalso := false) (symm := false) only [*]
        | refine runQ_gC rfl (fun K hK => ?_)
        | refine runQ_gS rfl rfl ?_
        | refine runQ_gU rfl rfl ?_
        | (refine runQ_gT rfl (fun hc K hK => ?_) (fun hc => ?_) <;> first | (exfalso; omega) | skip)
        | (refine runQ_gF rfl (fun hc K hK => ?_) (fun hc => ?_) <;> first | (exfalso; omega) | skip)
        | refine runQ_guard rfl (fun hc K hK => ?_) (fun hc => ?_)
        | refine calP_lent rfl rfl (In_spec _ _ _) rfl ?_
        | refine calP_lent rfl rfl (When_spec _ _) rfl ?_
        | refine PW.seq (fun K hK => ?_)
        | refine PW.ret ?_
        | refine PW.skip ?_
        | refine PW.exit ?_
        | refine PW.block ?_
        | refine PW.condT rfl ?_
        | refine PW.condF rfl ?_
        | (refine PW.condD rfl (fun hc => ?_) (fun hc => ?_) <;> first | (exfalso; omega) | skip)
        | (refine PW.condN rfl (fun hc => ?_) (fun hc => ?_) <;> first | (exfalso; omega) | skip)
        | refine PW.cond rfl (fun hc => ?_) (fun hc => ?_)
        | refine PW.regQ [1] ?_
        | refine PW.sdrawG kt_19 sc_19 [1] hmix (by kernel_rfl) (fun K hK => ?_)
        | refine PW.drawG sc_19 [1] hmix (by kernel_rfl) (fun K hK => ?_)
        | refine PW.label ?_
        | omega
        | (split <;> first | contradiction | skip)
    | true =>
      cases q3 : inV f 0 s with
      | false =>
        have hr : drawnOk p s f = false := by simp [drawnOk, q1, q2, q3]
        rw [hr]
        refine spec_of (nt := 25) (rs := [.tmp 2]) Try.func19 rfl rfl rfl rfl (by simp) (by simp [np]) (fun B => ?_)
        repeat' first
          | exact True.intro
          | refine runQ_step (fun K hK => ?_)
          | refine runQ_end ?_
          | refine PW.sregN kt_19 [1] (fun K hK => ?_)
          | simp only [push_cast, ↓reduceIte, Nat.reduceAdd, Nat.reduceSub, Nat.reduceMul, Nat.reduceEqDiff, Nat.reduceLT, Nat.reduceLeDiff, Int.reduceToNat, reduceCtorEq, Int.reduceEq, Int.reduceLT, Int.reduceLE, Int.reduceAdd, Int.reduceSub, Int.reduceMul, Int.reduceNeg, MV.top, kt_19, ti1, ti2, ti3, ti4, ti27, ti32, eqt27, q1, q2, q3]
          | refine And.intro ?_ ?_
          | (refine hK _ ?_; clear hK K)
          | (refine hK _ ?_ ?_ <;> clear hK K)
          | apply_assumption (exfalso := false) (symm := false) only [*]
          | refine runQ_gC rfl (fun K hK => ?_)
          | refine runQ_gS rfl rfl ?_
          | refine runQ_gU rfl rfl ?_
          | (refine runQ_gT rfl (fun hc K hK => ?_) (fun hc => ?_) <;> first | (exfalso; omega) | skip)
          | (refine runQ_gF rfl (fun hc K hK => ?_) (fun hc => ?_) <;> first | (exfalso; omega) | skip)
          | refine runQ_guard rfl (fun hc K hK => ?_) (fun hc => ?_)
          | refine calP_lent rfl rfl (In_spec _ _ _) rfl ?_
          | refine calP_lent rfl rfl (When_spec _ _) rfl ?_
          | refine PW.seq (fun K hK => ?_)
          | refine PW.ret ?_
          | refine PW.skip ?_
          | refine PW.exit ?_
          | refine PW.block ?_
          | refine PW.condT rfl ?_
          | refine PW.condF rfl ?_
          | (refine PW.condD rfl (fun hc => ?_) (fun hc => ?_) <;> first | (exfalso; omega) | skip)
          | (refine PW.condN rfl (fun hc => ?_) (fun hc => ?_) <;> first | (exfalso; omega) | skip)
          | refine PW.cond rfl (fun hc => ?_) (fun hc => ?_)
          | refine PW.regQ [1] ?_
          | refine PW.sdrawG kt_19 sc_19 [1] hmix (by kernel_rfl) (fun K hK => ?_)
          | refine PW.drawG sc_19 [1] hmix (by kernel_rfl) (fun K hK => ?_)
          | refine PW.label ?_
          | omega
          | (split <;> first | contradiction | skip)
      | true =>
        have hr : drawnOk p s f = true := by simp [drawnOk, q1, q2, q3]
        rw [hr]
        refine spec_of (nt := 25) (rs := [.tmp 2]) Try.func19 rfl rfl rfl rfl (by simp) (by simp [np]) (fun B => ?_)
        repeat' first
          | exact True.intro
          | refine runQ_step (fun K hK => ?_)
          | refine runQ_end ?_
          | refine PW.sregN kt_19 [1] (fun K hK => ?_)
          | simp only [push_cast, ↓reduceIte, Nat.reduceAdd, Nat.reduceSub, Nat.reduceMul, Nat.reduceEqDiff, Nat.reduceLT, Nat.reduceLeDiff, Int.reduceToNat, reduceCtorEq, Int.reduceEq, Int.reduceLT, Int.reduceLE, Int.reduceAdd, Int.reduceSub, Int.reduceMul, Int.reduceNeg, MV.top, kt_19, ti1, ti2, ti3, ti4, ti27, ti32, eqt27, q1, q2, q3]
          | refine And.intro ?_ ?_
          | (refine hK _ ?_; clear hK K)
          | (refine hK _ ?_ ?_ <;> clear hK K)
          | apply_assumption (exfalso := false) (symm := false) only [*]
          | refine runQ_gC rfl (fun K hK => ?_)
          | refine runQ_gS rfl rfl ?_
          | refine runQ_gU rfl rfl ?_
          | (refine runQ_gT rfl (fun hc K hK => ?_) (fun hc => ?_) <;> first | (exfalso; omega) | skip)
          | (refine runQ_gF rfl (fun hc K hK => ?_) (fun hc => ?_) <;> first | (exfalso; omega) | skip)
          | refine runQ_guard rfl (fun hc K hK => ?_) (fun hc => ?_)
          | refine calP_lent rfl rfl (In_spec _ _ _) rfl ?_
          | refine calP_lent rfl rfl (When_spec _ _) rfl ?_
          | refine PW.seq (fun K hK => ?_)
          | refine PW.ret ?_
          | refine PW.skip ?_
          | refine PW.exit ?_
          | refine PW.block ?_
          | refine PW.condT rfl ?_
          | refine PW.condF rfl ?_
          | (refine PW.condD rfl (fun hc => ?_) (fun hc => ?_) <;> first | (exfalso; omega) | skip)
          | (refine PW.condN rfl (fun hc => ?_) (fun hc => ?_) <;> first | (exfalso; omega) | skip)
          | refine PW.cond rfl (fun hc => ?_) (fun hc => ?_)
          | refine PW.regQ [1] ?_
          | refine PW.sdrawG kt_19 sc_19 [1] hmix (by kernel_rfl) (fun K hK => ?_)
          | refine PW.drawG sc_19 [1] hmix (by kernel_rfl) (fun K hK => ?_)
          | refine PW.label ?_
          | omega
          | (split <;> first | contradiction | skip)

def drawnE (p s f num den : Int) : Int := firstV [whenV (!drawnOk p s f) 1, whenV (!levelOk num den) 1]

/-- Plans for open orders. -/
def sc_68 : List (Nat × Sc) := [(1, .take 0 (.take 2 (.one 1 [2] (.one 3 [] (.one 4 [] (.one 5 [] (.one 6 [] (.fin))))))))]
/-- What is read later. -/
def kt_68 : List (Nat × List Nat) := [(0, [2, 3]), (1, [4])]
theorem drawnError_spec (p s f num den : Int) : Spec Try.prog 68 [drawnM p s f, fracV num den] [(none, .int .i64 (drawnE p s f num den))] := by
  have e1 := CheckDrawn_spec p s f
  have e2 := CheckLevel_spec num den
  have e3 := First_spec [whenV (!drawnOk p s f) 1, whenV (!levelOk num den) 1] (by simp)
  unfold drawnE
  unfold drawnM at e1 ⊢
  unfold fracV at e2 ⊢
  refine spec_of (nt := 11) (rs := [.tmp 4]) Try.func68 rfl rfl rfl rfl (by simp) (by simp [np]) (fun B => ?_)
  repeat' first
    | exact True.intro
    | refine runQ_step (fun K hK => ?_)
    | refine runQ_end ?_
    | refine PW.sregN kt_68 [2, 3] (fun K hK => ?_)
    | simp only [push_cast, ↓reduceIte, Nat.reduceAdd, Nat.reduceSub, Nat.reduceMul, Nat.reduceEqDiff, Nat.reduceLT, Nat.reduceLeDiff, Int.reduceToNat, reduceCtorEq, Int.reduceEq, Int.reduceLT, Int.reduceLE, Int.reduceAdd, Int.reduceSub, Int.reduceMul, Int.reduceNeg, MV.top, kt_68, ti1, ti2, ti3, ti27, ti30, ti32, ti97, eqt27, eqt30]
    | refine And.intro ?_ ?_
    | (refine hK _ ?_; clear hK K)
    | (refine hK _ ?_ ?_ <;> clear hK K)
    | apply_assumption (exfalso := false) (symm := false) only [*]
    | refine DrG.take rfl rfl rfl (by kernel_rfl) rfl (fun K hK => ?_)
    | refine DrG.one rfl rfl (by kernel_rfl) (by kernel_rfl) (by kernel_rfl) (fun K hK => ?_)
    | refine DrG.fin rfl (by kernel_rfl) (by kernel_rfl) ?_
    | refine Still.ofR rfl rfl rfl (by kernel_rfl) rfl (fun K hK => ?_)
    | refine calP_lent rfl rfl e1 rfl ?_
    | refine calP_lent rfl rfl e2 rfl ?_
    | refine calP_lent rfl rfl e3 rfl ?_
    | refine PW.seq (fun K hK => ?_)
    | refine PW.ret ?_
    | refine PW.skip ?_
    | refine PW.exit ?_
    | refine PW.block ?_
    | refine PW.condT rfl ?_
    | refine PW.condF rfl ?_
    | (refine PW.condD rfl (fun hc => ?_) (fun hc => ?_) <;> first | (exfalso; omega) | skip)
    | (refine PW.condN rfl (fun hc => ?_) (fun hc => ?_) <;> first | (exfalso; omega) | skip)
    | refine PW.cond rfl (fun hc => ?_) (fun hc => ?_)
    | refine PW.regQ [2, 3] ?_
    | refine PW.sdrawG kt_68 sc_68 [2, 3] hmix (by kernel_rfl) (fun K hK => ?_)
    | refine PW.drawG sc_68 [2, 3] hmix (by kernel_rfl) (fun K hK => ?_)
    | refine PW.label ?_
    | omega
    | (split <;> first | contradiction | skip)

theorem wrap_m {x : Int} (h0 : (-9223372036854775808 ≤ x) = True) (h1 : (x ≤ 9223372036854775807) = True) : IntKind.i64.wrap x = x := wrap_id (of_eq_true h0) (of_eq_true h1)

/-- What is read later. -/
def kt_69 : List (Nat × List Nat) := [(0, [2, 3]), (1, [2, 3, 5]), (2, [4])]
theorem most433_spec : Spec Try.prog 69 [drawnM 4 4 3, fracV 1 2] [(none, .int .i64 3)] := by
  have e1 : ∀ g cap, Spec Try.prog 70 [.int .i64 4, .int .i64 4, .fn g cap] [(none, .int .i64 4)] := fun g cap => first_spec (fun _ => false) 4 4 4 (by omega) (by omega) (by omega) (by omega) (fun n _ _ => rfl) (fun n h1 h2 => by omega) (fun n h1 h2 => by omega)
  have w1 : IntKind.i64.wrap 0 = 0 := by decide
  have w3 : IntKind.i64.wrap 3 = 3 := by decide
  have w4 : IntKind.i64.wrap 4 = 4 := by decide
  unfold drawnM fracV
  refine spec_of (nt := 22) (rs := [.tmp 4]) Try.func69 rfl rfl rfl rfl (by simp) (by simp [np]) (fun B => ?_)
  repeat' first
    | exact True.intro
    | refine runQ_step (fun K hK => ?_)
    | refine runQ_end ?_
    | refine PW.sregN kt_69 [2, 3] (fun K hK => ?_)
    | simp only [push_cast, ↓reduceIte, Nat.reduceAdd, Nat.reduceSub, Nat.reduceMul, Nat.reduceEqDiff, Nat.reduceLT, Nat.reduceLeDiff, Int.reduceToNat, reduceCtorEq, Int.reduceEq, Int.reduceLT, Int.reduceLE, Int.reduceAdd, Int.reduceSub, Int.reduceMul, Int.reduceNeg, MV.top, kt_69, ti1, ti2, ti3, ti27, ti30, ti52, ti106, eqt27, eqt30, w1, w3, w4]
    | refine And.intro ?_ ?_
    | (refine hK _ ?_; clear hK K)
    | (refine hK _ ?_ ?_ <;> clear hK K)
    | apply_assumption (exfalso := false) (symm := false) only [*]
    | refine calP_lent rfl rfl (e1 _ _) rfl ?_
    | refine PW.seq (fun K hK => ?_)
    | refine PW.ret ?_
    | refine PW.skip ?_
    | refine PW.exit ?_
    | refine PW.block ?_
    | refine PW.condT rfl ?_
    | refine PW.condF rfl ?_
    | (refine PW.condD rfl (fun hc => ?_) (fun hc => ?_) <;> first | (exfalso; omega) | skip)
    | (refine PW.condN rfl (fun hc => ?_) (fun hc => ?_) <;> first | (exfalso; omega) | skip)
    | refine PW.cond rfl (fun hc => ?_) (fun hc => ?_)
    | refine PW.regQ [2, 3] ?_
    | refine PW.sdrawG kt_69 sc_69 [2, 3] hmix (by kernel_rfl) (fun K hK => ?_)
    | refine PW.drawG sc_69 [2, 3] hmix (by kernel_rfl) (fun K hK => ?_)
    | refine PW.label ?_
    | omega
    | (split <;> first | contradiction | skip)

/-- What is read later. -/
def kt_15 : List (Nat × List Nat) := [(0, [2, 3]), (1, [2, 3, 6]), (2, [2, 3, 6, 11]), (3, [4, 5]), (4, [4, 5])]
theorem Most433_spec : Spec Try.prog 15 [drawnM 4 4 3, fracV 1 2] [(none, .int .i64 3), (none, .int .i64 0)] := by
  have e1 := drawnError_spec 4 4 3 1 2
  have hz : drawnE 4 4 3 1 2 = 0 := by decide
  rw [hz] at e1
  have e2 := most433_spec
  unfold drawnM fracV at *
  refine spec_of (nt := 16) (rs := [.tmp 4, .tmp 5]) Try.func15 rfl rfl rfl rfl (by simp) (by simp [np]) (fun B => ?_)
  repeat' first
    | exact True.intro
    | refine runQ_step (fun K hK => ?_)
    | refine runQ_end ?_
    | refine PW.sregN kt_15 [2, 3] (fun K hK => ?_)
    | simp only [push_cast, ↓reduceIte, Nat.reduceAdd, Nat.reduceSub, Nat.reduceMul, Nat.reduceEqDiff, Nat.reduceLT, Nat.reduceLeDiff, Int.reduceToNat, reduceCtorEq, Int.reduceEq, Int.reduceLT, Int.reduceLE, Int.reduceAdd, Int.reduceSub, Int.reduceMul, Int.reduceNeg, MV.top, kt_15, ti1, ti2, ti3, ti4, ti27, ti30, ti32, eqt27, eqt30]
    | refine And.intro ?_ ?_
    | (refine hK _ ?_; clear hK K)
    | (refine hK _ ?_ ?_ <;> clear hK K)
    | apply_assumption (exfalso := false) (symm := false) only [*]
    | refine calP_lent rfl rfl e1 rfl ?_
    | refine calP_lent rfl rfl e2 rfl ?_
    | refine PW.seq (fun K hK => ?_)
    | refine PW.ret ?_
    | refine PW.skip ?_
    | refine PW.exit ?_
    | refine PW.block ?_
    | refine PW.condT rfl ?_
    | refine PW.condF rfl ?_
    | (refine PW.condD rfl (fun hc => ?_) (fun hc => ?_) <;> first | (exfalso; omega) | skip)
    | (refine PW.condN rfl (fun hc => ?_) (fun hc => ?_) <;> first | (exfalso; omega) | skip)
    | refine PW.cond rfl (fun hc => ?_) (fun hc => ?_)
    | refine PW.regQ [2, 3] ?_
    | refine PW.sdrawG kt_15 sc_15 [2, 3] hmix (by kernel_rfl) (fun K hK => ?_)
    | refine PW.drawG sc_15 [2, 3] hmix (by kernel_rfl) (fun K hK => ?_)
    | refine PW.label ?_
    | omega
    | (split <;> first | contradiction | skip)

theorem hash_ab : hashV ⟨#[97]⟩ ⟨#[98]⟩ = hashR ⟨#[97]⟩ ⟨#[98]⟩ := by decide

/-- What is read later. -/
def kt_22 : List (Nat × List Nat) := [(0, []), (1, [1, 2]), (2, [1, 2, 3, 4]), (3, [0])]
theorem drawn_spec : Spec Try.prog 22 [] [(none, .bool true)] := by
  have e1 := Hash_spec ⟨#[97]⟩ ⟨#[98]⟩ (by decide) (by decide) (by decide) (by decide) (by decide)
  have e2 := HashOf_spec ⟨#[97]⟩ ⟨#[98]⟩ (by decide)
  have hh := hash_ab
  generalize hashV ⟨#[97]⟩ ⟨#[98]⟩ = x at e1 hh
  rw [← hh] at e2
  clear hh
  have e3 := Most433_spec
  unfold drawnM fracV at e3
  refine spec_of (nt := 30) (rs := [.tmp 0]) Try.func22 rfl rfl rfl rfl (by simp) (by simp [np]) (fun B => ?_)
  repeat' first
    | exact True.intro
    | refine runQ_step (fun K hK => ?_)
    | refine runQ_end ?_
    | refine PW.sregN kt_22 [] (fun K hK => ?_)
    | simp only [push_cast, ↓reduceIte, Nat.reduceAdd, Nat.reduceSub, Nat.reduceMul, Nat.reduceEqDiff, Nat.reduceLT, Nat.reduceLeDiff, Int.reduceToNat, reduceCtorEq, Int.reduceEq, Int.reduceLT, Int.reduceLE, Int.reduceAdd, Int.reduceSub, Int.reduceMul, Int.reduceNeg, MV.top, kt_22, ti1, ti2, ti3, ti4, ti9, ti27, ti30, ti32, eqt27, eqt30]
    | refine And.intro ?_ ?_
    | (refine hK _ ?_; clear hK K)
    | (refine hK _ ?_ ?_ <;> clear hK K)
    | apply_assumption (exfalso := false) (symm := false) only [*]
    | refine runQ_gC rfl (fun K hK => ?_)
    | refine runQ_gS rfl rfl ?_
    | refine runQ_gU rfl rfl ?_
    | (refine runQ_gT rfl (fun hc K hK => ?_) (fun hc => ?_) <;> first | (exfalso; omega) | skip)
    | (refine runQ_gF rfl (fun hc K hK => ?_) (fun hc => ?_) <;> first | (exfalso; omega) | skip)
    | refine runQ_guard rfl (fun hc K hK => ?_) (fun hc => ?_)
    | refine calP_lent rfl rfl e1 rfl ?_
    | refine calP_lent rfl rfl e2 rfl ?_
    | refine calP_lent rfl rfl e3 rfl ?_
    | refine PW.seq (fun K hK => ?_)
    | refine PW.ret ?_
    | refine PW.skip ?_
    | refine PW.exit ?_
    | refine PW.block ?_
    | refine PW.condT rfl ?_
    | refine PW.condF rfl ?_
    | (refine PW.condD rfl (fun hc => ?_) (fun hc => ?_) <;> first | (exfalso; omega) | skip)
    | (refine PW.condN rfl (fun hc => ?_) (fun hc => ?_) <;> first | (exfalso; omega) | skip)
    | refine PW.cond rfl (fun hc => ?_) (fun hc => ?_)
    | refine PW.regQ [] ?_
    | refine PW.sdrawG kt_22 sc_22 [] hmix (by kernel_rfl) (fun K hK => ?_)
    | refine PW.drawG sc_22 [] hmix (by kernel_rfl) (fun K hK => ?_)
    | refine PW.label ?_
    | omega
    | (split <;> first | contradiction | skip)
end Go.Pv

