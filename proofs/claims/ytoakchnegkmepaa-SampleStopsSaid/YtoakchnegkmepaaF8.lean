/- Contracts of costs. -/
import Derived.Test.YtoakchnegkmepaaF7
set_option linter.unusedSimpArgs false
set_option linter.unusedVariables false
set_option maxRecDepth 100000
set_option maxHeartbeats 4000000
namespace Go.Pv
open Go Go.Proofs
attribute [local irreducible] PW Dr DrS DrN DrG DrH Spec SpecB runQ opP calP gdP Still

def rulesOk (o r s e : Int) : Bool := inV o 0 1000000000 && inV r 0 1000000000 && inV s 0 1000000000 && inV e 0 1000000
def rulesM (o r s e : Int) : MV := .agg [.int .i64 o, .int .i64 r, .int .i64 s, .int .i64 e]

/-- What is read later. -/
def kt_81 : List (Nat × List Nat) := [(0, [1]), (1, [2])]
theorem costError_spec (o r s e : Int) : Spec Try.prog 81 [rulesM o r s e] [(none, .int .i64 (whenV (!rulesOk o r s e) 1))] := by
  unfold rulesM
  cases q1 : inV o 0 1000000000 with
  | false =>
    have hr : rulesOk o r s e = false := by simp [rulesOk, q1]
    rw [hr]
    refine spec_of (nt := 26) (rs := [.tmp 2]) Try.func81 rfl rfl rfl rfl (by simp) (by simp [np]) (fun B => ?_)
    repeat' first
      | exact True.intro
      | refine runQ_step (fun K hK => ?_)
      | refine runQ_end ?_
      | refine PW.sregN kt_81 [1] (fun K hK => ?_)
      | simp only [push_cast, ↓reduceIte, Nat.reduceAdd, Nat.reduceSub, Nat.reduceMul, Nat.reduceEqDiff, Nat.reduceLT, Nat.reduceLeDiff, Int.reduceToNat, reduceCtorEq, Int.reduceEq, Int.reduceLT, Int.reduceLE, Int.reduceAdd, Int.reduceSub, Int.reduceMul, Int.reduceNeg, MV.top, kt_81, ti1, ti2, ti3, ti4, ti32, ti51, eqt51, q1]
      | refine And.intro ?_ ?_
      | (refine hK _ ?_; clear hK K)
      | (refine hK _ ?_ ?_ <;> clear hK K)
      | apply_assumption (exfalso := false) (symm := false) only [*]
      | refine runQ_gC rfl (fun K hK => ?_)
      | refine runQ_gS rfl rfl ?_
      | refine runQ_gU rfl rfl ?_
      | (refine runQ_gT rfl (fun hc K hK => ?_) (fun hc => ?_) <;> first | (exfalso; omega) | skip)
      | (refine runQ_gF rfl (fun hc K hK => ?_) (fun hc => ?_) <;> first | (exfalso; omega) | skip)
      | refine runQ_guard rfl (fun hc K hK => ?_) (fun hc => ?_)
      | refine calP_lent rfl rfl (In_spec _ _ _) rfl ?_
      | refine calP_lent rfl rfl (When_spec _ _) rfl ?_
      | refine PW.seq (fun K hK => ?_)
      | refine PW.ret ?_
      | refine PW.skip ?_
      | refine PW.exit ?_
      | refine PW.block ?_
      | refine PW.condT rfl ?_
      | refine PW.condF rfl ?_
      | (refine PW.condD rfl (fun hc => ?_) (fun hc => ?_) <;> first | (exfalso; omega) | skip)
      | (refine PW.condN rfl (fun hc => ?_) (fun hc => ?_) <;> first | (exfalso; omega) | skip)
      | refine PW.cond rfl (fun hc => ?_) (fun hc => ?_)
      | refine PW.regQ [1] ?_
      | refine PW.sdrawG kt_81 sc_81 [1] hmix (by kernel_rfl) (fun K hK => ?_)
      | refine PW.drawG sc_81 [1] hmix (by kernel_rfl) (fun K hK => ?_)
      | refine PW.label ?_
      | omega
      | (split <;> first | contradiction | skip)
  | true =>
    cases q2 : inV r 0 1000000000 with
    | false =>
      have hr : rulesOk o r s e = false := by simp [rulesOk, q1, q2]
      rw [hr]
      refine spec_of (nt := 26) (rs := [.tmp 2]) Try.func81 rfl rfl rfl rfl (by simp) (by simp [np]) (fun B => ?_)
      repeat' first
        | exact True.intro
        | refine runQ_step (fun K hK => ?_)
        | refine runQ_end ?_
        | refine PW.sregN kt_81 [1] (fun K hK => ?_)
        | simp only [push_cast, ↓reduceIte, Nat.reduceAdd, Nat.reduceSub, Nat.reduceMul, Nat.reduceEqDiff, Nat.reduceLT, Nat.reduceLeDiff, Int.reduceToNat, reduceCtorEq, Int.reduceEq, Int.reduceLT, Int.reduceLE, Int.reduceAdd, Int.reduceSub, Int.reduceMul, Int.reduceNeg, MV.top, kt_81, ti1, ti2, ti3, ti4, ti32, ti51, eqt51, q1, q2]
        | refine And.intro ?_ ?_
        | (refine hK _ ?_; clear hK K)
        | (refine hK _ ?_ ?_ <;> clear hK K)
        | apply_assumption (exfalso := false) (symm := false) only [*]
        | refine runQ_gC rfl (fun K hK => ?_)
        | refine runQ_gS rfl rfl ?_
        | refine runQ_gU rfl rfl ?_
        | (refine runQ_gT rfl (fun hc K hK => ?_) (fun hc => ?_) <;> first | (exfalso; omega) | skip)
        | (refine runQ_gF rfl (fun hc K hK => ?_) (fun hc => ?_) <;> first | (exfalso; omega) | skip)
        | refine runQ_guard rfl (fun hc K hK => ?_) (fun hc => ?_)
        | refine calP_lent rfl rfl (In_spec _ _ _) rfl ?_
        | refine calP_lent rfl rfl (When_spec _ _) rfl ?_
        | refine PW.seq (fun K hK => ?_)
        | refine PW.ret ?_
        | refine PW.skip ?_
        | refine PW.exit ?_
        | refine PW.block ?_
        | refine PW.condT rfl ?_
        | refine PW.condF rfl ?_
        | (refine PW.condD rfl (fun hc => ?_) (fun hc => ?_) <;> first | (exfalso; omega) | skip)
        | (refine PW.condN rfl (fun hc => ?_) (fun hc => ?_) <;> first | (exfalso; omega) | skip)
        | refine PW.cond rfl (fun hc => ?_) (fun hc => ?_)
        | refine PW.regQ [1] ?_
        | refine PW.sdrawG kt_81 sc_81 [1] hmix (by kernel_rfl) (fun K hK => ?_)
        | refine PW.drawG sc_81 [1] hmix (by kernel_rfl) (fun K hK => ?_)
        | refine PW.label ?_
        | omega
        | (split <;> first | contradiction | skip)
    | true =>
      cases q3 : inV s 0 1000000000 with
      | false =>
        have hr : rulesOk o r s e = false := by simp [rulesOk, q1, q2, q3]
        rw [hr]
        refine spec_of (nt := 26) (rs := [.tmp 2]) Try.func81 rfl rfl rfl rfl (by simp) (by simp [np]) (fun B => ?_)
        repeat' first
          | exact True.intro
          | refine runQ_step (fun K hK => ?_)
          | refine runQ_end ?_
          | refine PW.sregN kt_81 [1] (fun K hK => ?_)
          | simp only [push_cast, ↓reduceIte, Nat.reduceAdd, Nat.reduceSub, Nat.reduceMul, Nat.reduceEqDiff, Nat.reduceLT, Nat.reduceLeDiff, Int.reduceToNat, reduceCtorEq, Int.reduceEq, Int.reduceLT, Int.reduceLE, Int.reduceAdd, Int.reduceSub, Int.reduceMul, Int.reduceNeg, MV.top, kt_81, ti1, ti2, ti3, ti4, ti32, ti51, eqt51, q1, q2, q3]
          | refine And.intro ?_ ?_
          | (refine hK _ ?_; clear hK K)
          | (refine hK _ ?_ ?_ <;> clear hK K)
          | apply_assumption (exfalso := false) (symm := false) only [*]
          | refine runQ_gC rfl (fun K hK => ?_)
          | refine runQ_gS rfl rfl ?_
          | refine runQ_gU rfl rfl ?_
          | (refine runQ_gT rfl (fun hc K hK => ?_) (fun hc => ?_) <;> first | (exfalso; omega) | skip)
          | (refine runQ_gF rfl (fun hc K hK => ?_) (fun hc => ?_) <;> first | (exfalso; omega) | skip)
          | refine runQ_guard rfl (fun hc K hK => ?_) (fun hc => ?_)
          | refine calP_lent rfl rfl (In_spec _ _ _) rfl ?_
          | refine calP_lent rfl rfl (When_spec _ _) rfl ?_
          | refine PW.seq (fun K hK => ?_)
          | refine PW.ret ?_
          | refine PW.skip ?_
          | refine PW.exit ?_
          | refine PW.block ?_
          | refine PW.condT rfl ?_
          | refine PW.condF rfl ?_
          | (refine PW.condD rfl (fun hc => ?_) (fun hc => ?_) <;> first | (exfalso; omega) | skip)
          | (refine PW.condN rfl (fun hc => ?_) (fun hc => ?_) <;> first | (exfalso; omega) | skip)
          | refine PW.cond rfl (fun hc => ?_) (fun hc => ?_)
          | refine PW.regQ [1] ?_
          | refine PW.sdrawG kt_81 sc_81 [1] hmix (by kernel_rfl) (fun K hK => ?_)
          | refine PW.drawG sc_81 [1] hmix (by kernel_rfl) (fun K hK => ?_)
          | refine PW.label ?_
          | omega
          | (split <;> first | contradiction | skip)
      | true =>
        cases q4 : inV e 0 1000000 with
        | false =>
          have hr : rulesOk o r s e = false := by simp [rulesOk, q1, q2, q3, q4]
          rw [hr]
          refine spec_of (nt := 26) (rs := [.tmp 2]) Try.func81 rfl rfl rfl rfl (by simp) (by simp [np]) (fun B => ?_)
          repeat' first
            | exact True.intro
            | refine runQ_step (fun K hK => ?_)
            | refine runQ_end ?_
            | refine PW.sregN kt_81 [1] (fun K hK => ?_)
            | simp only [push_cast, ↓reduceIte, Nat.reduceAdd, Nat.reduceSub, Nat.reduceMul, Nat.reduceEqDiff, Nat.reduceLT, Nat.reduceLeDiff, Int.reduceToNat, reduceCtorEq, Int.reduceEq, Int.reduceLT, Int.reduceLE, Int.reduceAdd, Int.reduceSub, Int.reduceMul, Int.reduceNeg, MV.top, kt_81, ti1, ti2, ti3, ti4, ti32, ti51, eqt51, q1, q2, q3, q4]
            | refine And.intro ?_ ?_
            | (refine hK _ ?_; clear hK K)
            | (refine hK _ ?_ ?_ <;> clear hK K)
            | apply_assumption (exfalso := false) (symm := false) only [*]
            | refine runQ_gC rfl (fun K hK => ?_)
            | refine runQ_gS rfl rfl ?_
            | refine runQ_gU rfl rfl ?_
            | (refine runQ_gT rfl (fun hc K hK => ?_) (fun hc => ?_) <;> first | (exfalso; omega) | skip)
            | (refine runQ_gF rfl (fun hc K hK => ?_) (fun hc => ?_) <;> first | (exfalso; omega) | skip)
            | refine runQ_guard rfl (fun hc K hK => ?_) (fun hc => ?_)
            | refine calP_lent rfl rfl (In_spec _ _ _) rfl ?_
            | refine calP_lent rfl rfl (When_spec _ _) rfl ?_
            | refine PW.seq (fun K hK => ?_)
            | refine PW.ret ?_
            | refine PW.skip ?_
            | refine PW.exit ?_
            | refine PW.block ?_
            | refine PW.condT rfl ?_
            | refine PW.condF rfl ?_
            | (refine PW.condD rfl (fun hc => ?_) (fun hc => ?_) <;> first | (exfalso; omega) | skip)
            | (refine PW.condN rfl (fun hc => ?_) (fun hc => ?_) <;> first | (exfalso; omega) | skip)
            | refine PW.cond rfl (fun hc => ?_) (fun hc => ?_)
            | refine PW.regQ [1] ?_
            | refine PW.sdrawG kt_81 sc_81 [1] hmix (by kernel_rfl) (fun K hK => ?_)
            | refine PW.drawG sc_81 [1] hmix (by kernel_rfl) (fun K hK => ?_)
            | refine PW.label ?_
            | omega
            | (split <;> first | contradiction | skip)
        | true =>
          have hr : rulesOk o r s e = true := by simp [rulesOk, q1, q2, q3, q4]
          rw [hr]
          refine spec_of (nt := 26) (rs := [.tmp 2]) Try.func81 rfl rfl rfl rfl (by simp) (by simp [np]) (fun B => ?_)
          repeat' first
            | exact True.intro
            | refine runQ_step (fun K hK => ?_)
            | refine runQ_end ?_
            | refine PW.sregN kt_81 [1] (fun K hK => ?_)
            | simp only [push_cast, ↓reduceIte, Nat.reduceAdd, Nat.reduceSub, Nat.reduceMul, Nat.reduceEqDiff, Nat.reduceLT, Nat.reduceLeDiff, Int.reduceToNat, reduceCtorEq, Int.reduceEq, Int.reduceLT, Int.reduceLE, Int.reduceAdd, Int.reduceSub, Int.reduceMul, Int.reduceNeg, MV.top, kt_81, ti1, ti2, ti3, ti4, ti32, ti51, eqt51, q1, q2, q3, q4]
            | refine And.intro ?_ ?_
            | (refine hK _ ?_; clear hK K)
            | (refine hK _ ?_ ?_ <;> clear hK K)
            | apply_assumption (exfalso := false) (symm := false) only [*]
            | refine runQ_gC rfl (fun K hK => ?_)
            | refine runQ_gS rfl rfl ?_
            | refine runQ_gU rfl rfl ?_
            | (refine runQ_gT rfl (fun hc K hK => ?_) (fun hc => ?_) <;> first | (exfalso; omega) | skip)
            | (refine runQ_gF rfl (fun hc K hK => ?_) (fun hc => ?_) <;> first | (exfalso; omega) | skip)
            | refine runQ_guard rfl (fun hc K hK => ?_) (fun hc => ?_)
            | refine calP_lent rfl rfl (In_spec _ _ _) rfl ?_
            | refine calP_lent rfl rfl (When_spec _ _) rfl ?_
            | refine PW.seq (fun K hK => ?_)
            | refine PW.ret ?_
            | refine PW.skip ?_
            | refine PW.exit ?_
            | refine PW.block ?_
            | refine PW.condT rfl ?_
            | refine PW.condF rfl ?_
            | (refine PW.condD rfl (fun hc => ?_) (fun hc => ?_) <;> first | (exfalso; omega) | skip)
            | (refine PW.condN rfl (fun hc => ?_) (fun hc => ?_) <;> first | (exfalso; omega) | skip)
            | refine PW.cond rfl (fun hc => ?_) (fun hc => ?_)
            | refine PW.regQ [1] ?_
            | refine PW.sdrawG kt_81 sc_81 [1] hmix (by kernel_rfl) (fun K hK => ?_)
            | refine PW.drawG sc_81 [1] hmix (by kernel_rfl) (fun K hK => ?_)
            | refine PW.label ?_
            | omega
            | (split <;> first | contradiction | skip)

def costV (o r s e n : Int) : Int := o + n * r + (if 0 < e then n.tdiv e * s else 0)

theorem mul_bd {a b A B : Int} (h1 : 0 ≤ a) (h2 : a ≤ A) (h3 : 0 ≤ b) (h4 : b ≤ B) : 0 ≤ a * b ∧ a * b ≤ A * B :=
  ⟨Int.mul_nonneg h1 h3, Int.mul_le_mul h2 h4 h3 (by omega)⟩

theorem rules_bd {o r s e : Int} (h : rulesOk o r s e = true) : (0 ≤ o ∧ o ≤ 1000000000) ∧ (0 ≤ r ∧ r ≤ 1000000000) ∧ (0 ≤ s ∧ s ≤ 1000000000) ∧ (0 ≤ e ∧ e ≤ 1000000) := by
  simp [rulesOk, inV] at h; omega

theorem tdiv_bd {n e : Int} (h0 : 0 ≤ n) (he : 0 < e) : 0 ≤ n.tdiv e ∧ n.tdiv e ≤ n := by
  rw [Int.tdiv_eq_ediv_of_nonneg h0]
  exact ⟨Int.ediv_nonneg h0 (by omega), Int.ediv_le_self e h0⟩

theorem cost_bd {o r s e n : Int} (h : rulesOk o r s e = true) (h0 : 0 ≤ n) (h1 : n ≤ 1000001) : IntKind.i64.wrap (n * r) = n * r ∧ IntKind.i64.wrap (o + n * r) = o + n * r ∧ (0 < e → IntKind.i64.wrap (n.tdiv e) = n.tdiv e ∧ IntKind.i64.wrap (n.tdiv e * s) = n.tdiv e * s ∧ IntKind.i64.wrap (o + n * r + n.tdiv e * s) = o + n * r + n.tdiv e * s) := by
  obtain ⟨h2, h3, h4, h5⟩ := rules_bd h
  have b1 := mul_bd h0 h1 h3.1 h3.2
  refine ⟨wrap_id (by omega) (by omega), wrap_id (by omega) (by omega), fun he => ?_⟩
  have b2 := tdiv_bd h0 he
  have b3 := mul_bd b2.1 (show n.tdiv e ≤ 1000001 by omega) h4.1 h4.2
  exact ⟨wrap_id (by omega) (by omega), wrap_id (by omega) (by omega), wrap_id (by omega) (by omega)⟩

/-- Plans for open orders. -/
def sc_83 : List (Nat × Sc) := [(3, .take 0 (.take 1 (.take 2 (.take 3 (.take 4 (.take 5 (.take 6 (.take 7 (.take 8 (.one 9 [] (.fin)))))))))))]
/-- What is read later. -/
def kt_83 : List (Nat × List Nat) := [(0, [1, 2]), (1, [1, 2, 5]), (2, [1, 2, 5, 15]), (3, [5]), (4, [4])]
theorem cost_spec (o r s e n : Int) (h : rulesOk o r s e = true) (h0 : 0 ≤ n) (h1 : n ≤ 1000001) : Spec Try.prog 83 [rulesM o r s e, .int .i64 n] [(none, .int .i64 (costV o r s e n))] := by
  obtain ⟨w1, w2, w3⟩ := cost_bd h h0 h1
  unfold rulesM
  by_cases he : 0 < e
  · obtain ⟨w4, w5, w6⟩ := w3 he
    have hz : (e = 0) = False := eq_false (by omega)
    clear w3
    have hc : costV o r s e n = o + n * r + n.tdiv e * s := by simp [costV, he]
    rw [hc]
    clear hc h
    refine spec_of (nt := 26) (rs := [.tmp 4]) Try.func83 rfl rfl rfl rfl (by simp) (by simp [np]) (fun B => ?_)
    repeat' first
      | exact True.intro
      | refine runQ_step (fun K hK => ?_)
      | refine runQ_end ?_
      | refine PW.sregN kt_83 [2] (fun K hK => ?_)
      | simp only [push_cast, ↓reduceIte, Nat.reduceAdd, Nat.reduceSub, Nat.reduceMul, Nat.reduceEqDiff, Nat.reduceLT, Nat.reduceLeDiff, Int.reduceToNat, reduceCtorEq, Int.reduceEq, Int.reduceLT, Int.reduceLE, Int.reduceAdd, Int.reduceSub, Int.reduceMul, Int.reduceNeg, MV.top, kt_83, ti1, ti2, ti3, ti4, ti51, eqt51, w1, w2, w4, w5, w6, he, hz]
      | refine And.intro ?_ ?_
      | (refine hK _ ?_; clear hK K)
      | (refine hK _ ?_ ?_ <;> clear hK K)
      | apply_assumption (exfalso := false) (symm := false) only [*]
      | refine DrG.take rfl rfl rfl (by kernel_rfl) rfl (fun K hK => ?_)
      | refine DrG.one rfl rfl (by kernel_rfl) (by kernel_rfl) (by kernel_rfl) (fun K hK => ?_)
      | refine DrG.fin rfl (by kernel_rfl) (by kernel_rfl) ?_
      | refine Still.ofR rfl rfl rfl (by kernel_rfl) rfl (fun K hK => ?_)
      | refine PW.seq (fun K hK => ?_)
      | refine PW.ret ?_
      | refine PW.skip ?_
      | refine PW.exit ?_
      | refine PW.block ?_
      | refine PW.condT rfl ?_
      | refine PW.condF rfl ?_
      | (refine PW.condD rfl (fun hc => ?_) (fun hc => ?_) <;> first | (exfalso; omega) | skip)
      | (refine PW.condN rfl (fun hc => ?_) (fun hc => ?_) <;> first | (exfalso; omega) | skip)
      | refine PW.cond rfl (fun hc => ?_) (fun hc => ?_)
      | refine PW.regQ [2] ?_
      | refine PW.sdrawG kt_83 sc_83 [2] hmix (by kernel_rfl) (fun K hK => ?_)
      | refine PW.drawG sc_83 [2] hmix (by kernel_rfl) (fun K hK => ?_)
      | refine PW.label ?_
      | omega
      | (split <;> first | contradiction | skip)
  · clear w3
    have hc : costV o r s e n = o + n * r := by simp [costV, he]
    rw [hc]
    clear hc h
    refine spec_of (nt := 26) (rs := [.tmp 4]) Try.func83 rfl rfl rfl rfl (by simp) (by simp [np]) (fun B => ?_)
    repeat' first
      | exact True.intro
      | refine runQ_step (fun K hK => ?_)
      | refine runQ_end ?_
      | refine PW.sregN kt_83 [2] (fun K hK => ?_)
      | simp only [push_cast, ↓reduceIte, Nat.reduceAdd, Nat.reduceSub, Nat.reduceMul, Nat.reduceEqDiff, Nat.reduceLT, Nat.reduceLeDiff, Int.reduceToNat, reduceCtorEq, Int.reduceEq, Int.reduceLT, Int.reduceLE, Int.reduceAdd, Int.reduceSub, Int.reduceMul, Int.reduceNeg, MV.top, kt_83, ti1, ti2, ti3, ti4, ti51, eqt51, w1, w2, he]
      | refine And.intro ?_ ?_
      | (refine hK _ ?_; clear hK K)
      | (refine hK _ ?_ ?_ <;> clear hK K)
      | apply_assumption (exfalso := false) (symm := false) only [*]
      | refine DrG.take rfl rfl rfl (by kernel_rfl) rfl (fun K hK => ?_)
      | refine DrG.one rfl rfl (by kernel_rfl) (by kernel_rfl) (by kernel_rfl) (fun K hK => ?_)
      | refine DrG.fin rfl (by kernel_rfl) (by kernel_rfl) ?_
      | refine Still.ofR rfl rfl rfl (by kernel_rfl) rfl (fun K hK => ?_)
      | refine PW.seq (fun K hK => ?_)
      | refine PW.ret ?_
      | refine PW.skip ?_
      | refine PW.exit ?_
      | refine PW.block ?_
      | refine PW.condT rfl ?_
      | refine PW.condF rfl ?_
      | (refine PW.condD rfl (fun hc => ?_) (fun hc => ?_) <;> first | (exfalso; omega) | skip)
      | (refine PW.condN rfl (fun hc => ?_) (fun hc => ?_) <;> first | (exfalso; omega) | skip)
      | refine PW.cond rfl (fun hc => ?_) (fun hc => ?_)
      | refine PW.regQ [2] ?_
      | refine PW.sdrawG kt_83 sc_83 [2] hmix (by kernel_rfl) (fun K hK => ?_)
      | refine PW.drawG sc_83 [2] hmix (by kernel_rfl) (fun K hK => ?_)
      | refine PW.label ?_
      | omega
      | (split <;> first | contradiction | skip)

/-- Plans for open orders. -/
def sc_35 : List (Nat × Sc) := [(3, .take 0 (.take 1 (.take 2 (.take 3 (.take 4 (.take 5 (.take 6 (.take 7 (.take 8 (.one 9 [] (.fin)))))))))))]
/-- What is read later. -/
def kt_35 : List (Nat × List Nat) := [(0, [1, 2]), (1, [1, 2, 5]), (2, [1, 2, 5, 15]), (3, [5]), (4, [4])]
theorem CostOf_spec (o r s e n : Int) (h : rulesOk o r s e = true) (h0 : 0 ≤ n) (h1 : n ≤ 1000001) : Spec Try.prog 35 [rulesM o r s e, .int .i64 n] [(none, .int .i64 (costV o r s e n))] := by
  obtain ⟨w1, w2, w3⟩ := cost_bd h h0 h1
  unfold rulesM
  by_cases he : 0 < e
  · obtain ⟨w4, w5, w6⟩ := w3 he
    have hz : (e = 0) = False := eq_false (by omega)
    clear w3
    have hc : costV o r s e n = o + n * r + n.tdiv e * s := by simp [costV, he]
    rw [hc]
    clear hc h
    refine spec_of (nt := 26) (rs := [.tmp 4]) Try.func35 rfl rfl rfl rfl (by simp) (by simp [np]) (fun B => ?_)
    repeat' first
      | exact True.intro
      | refine runQ_step (fun K hK => ?_)
      | refine runQ_end ?_
      | refine PW.sregN kt_35 [2] (fun K hK => ?_)
      | simp only [push_cast, ↓reduceIte, Nat.reduceAdd, Nat.reduceSub, Nat.reduceMul, Nat.reduceEqDiff, Nat.reduceLT, Nat.reduceLeDiff, Int.reduceToNat, reduceCtorEq, Int.reduceEq, Int.reduceLT, Int.reduceLE, Int.reduceAdd, Int.reduceSub, Int.reduceMul, Int.reduceNeg, MV.top, kt_35, ti1, ti2, ti3, ti4, ti51, eqt51, w1, w2, w4, w5, w6, he, hz]
      | refine And.intro ?_ ?_
      | (refine hK _ ?_; clear hK K)
      | (refine hK _ ?_ ?_ <;> clear hK K)
      | apply_assumption (exfalso := false) (symm := false) only [*]
      | refine DrG.take rfl rfl rfl (by kernel_rfl) rfl (fun K hK => ?_)
      | refine DrG.one rfl rfl (by kernel_rfl) (by kernel_rfl) (by kernel_rfl) (fun K hK => ?_)
      | refine DrG.fin rfl (by kernel_rfl) (by kernel_rfl) ?_
      | refine Still.ofR rfl rfl rfl (by kernel_rfl) rfl (fun K hK => ?_)
      | refine PW.seq (fun K hK => ?_)
      | refine PW.ret ?_
      | refine PW.skip ?_
      | refine PW.exit ?_
      | refine PW.block ?_
      | refine PW.condT rfl ?_
      | refine PW.condF rfl ?_
      | (refine PW.condD rfl (fun hc => ?_) (fun hc => ?_) <;> first | (exfalso; omega) | skip)
      | (refine PW.condN rfl (fun hc => ?_) (fun hc => ?_) <;> first | (exfalso; omega) | skip)
      | refine PW.cond rfl (fun hc => ?_) (fun hc => ?_)
      | refine PW.regQ [2] ?_
      | refine PW.sdrawG kt_35 sc_35 [2] hmix (by kernel_rfl) (fun K hK => ?_)
      | refine PW.drawG sc_35 [2] hmix (by kernel_rfl) (fun K hK => ?_)
      | refine PW.label ?_
      | omega
      | (split <;> first | contradiction | skip)
  · clear w3
    have hc : costV o r s e n = o + n * r := by simp [costV, he]
    rw [hc]
    clear hc h
    refine spec_of (nt := 26) (rs := [.tmp 4]) Try.func35 rfl rfl rfl rfl (by simp) (by simp [np]) (fun B => ?_)
    repeat' first
      | exact True.intro
      | refine runQ_step (fun K hK => ?_)
      | refine runQ_end ?_
      | refine PW.sregN kt_35 [2] (fun K hK => ?_)
      | simp only [push_cast, ↓reduceIte, Nat.reduceAdd, Nat.reduceSub, Nat.reduceMul, Nat.reduceEqDiff, Nat.reduceLT, Nat.reduceLeDiff, Int.reduceToNat, reduceCtorEq, Int.reduceEq, Int.reduceLT, Int.reduceLE, Int.reduceAdd, Int.reduceSub, Int.reduceMul, Int.reduceNeg, MV.top, kt_35, ti1, ti2, ti3, ti4, ti51, eqt51, w1, w2, he]
      | refine And.intro ?_ ?_
      | (refine hK _ ?_; clear hK K)
      | (refine hK _ ?_ ?_ <;> clear hK K)
      | apply_assumption (exfalso := false) (symm := false) only [*]
      | refine DrG.take rfl rfl rfl (by kernel_rfl) rfl (fun K hK => ?_)
      | refine DrG.one rfl rfl (by kernel_rfl) (by kernel_rfl) (by kernel_rfl) (fun K hK => ?_)
      | refine DrG.fin rfl (by kernel_rfl) (by kernel_rfl) ?_
      | refine Still.ofR rfl rfl rfl (by kernel_rfl) rfl (fun K hK => ?_)
      | refine PW.seq (fun K hK => ?_)
      | refine PW.ret ?_
      | refine PW.skip ?_
      | refine PW.exit ?_
      | refine PW.block ?_
      | refine PW.condT rfl ?_
      | refine PW.condF rfl ?_
      | (refine PW.condD rfl (fun hc => ?_) (fun hc => ?_) <;> first | (exfalso; omega) | skip)
      | (refine PW.condN rfl (fun hc => ?_) (fun hc => ?_) <;> first | (exfalso; omega) | skip)
      | refine PW.cond rfl (fun hc => ?_) (fun hc => ?_)
      | refine PW.regQ [2] ?_
      | refine PW.sdrawG kt_35 sc_35 [2] hmix (by kernel_rfl) (fun K hK => ?_)
      | refine PW.drawG sc_35 [2] hmix (by kernel_rfl) (fun K hK => ?_)
      | refine PW.label ?_
      | omega
      | (split <;> first | contradiction | skip)

/-- What is read later. -/
def kt_119 : List (Nat × List Nat) := [(0, [0]), (1, [2])]
theorem counts1_spec (n : Int) : Spec Try.prog 119 [.int .i64 n] [(none, .bool (!inV n 0 1000000))] := by
  refine spec_of (nt := 6) (rs := [.tmp 2]) Try.func119 rfl rfl rfl rfl (by simp) (by simp [np]) (fun B => ?_)
  repeat' first
    | exact True.intro
    | refine runQ_step (fun K hK => ?_)
    | refine runQ_end ?_
    | refine PW.sregN kt_119 [] (fun K hK => ?_)
    | simp only [push_cast, ↓reduceIte, Nat.reduceAdd, Nat.reduceSub, Nat.reduceMul, Nat.reduceEqDiff, Nat.reduceLT, Nat.reduceLeDiff, Int.reduceToNat, reduceCtorEq, Int.reduceEq, Int.reduceLT, Int.reduceLE, Int.reduceAdd, Int.reduceSub, Int.reduceMul, Int.reduceNeg, MV.top, kt_119, ti3, ti4]
    | refine And.intro ?_ ?_
    | (refine hK _ ?_; clear hK K)
    | (refine hK _ ?_ ?_ <;> clear hK K)
    | apply_assumption (exfalso := false) (symm := false) only [*]
    | refine calP_lent rfl rfl (In_spec _ _ _) rfl ?_
    | refine PW.seq (fun K hK => ?_)
    | refine PW.ret ?_
    | refine PW.skip ?_
    | refine PW.exit ?_
    | refine PW.block ?_
    | refine PW.condT rfl ?_
    | refine PW.condF rfl ?_
    | (refine PW.condD rfl (fun hc => ?_) (fun hc => ?_) <;> first | (exfalso; omega) | skip)
    | (refine PW.condN rfl (fun hc => ?_) (fun hc => ?_) <;> first | (exfalso; omega) | skip)
    | refine PW.cond rfl (fun hc => ?_) (fun hc => ?_)
    | refine PW.regQ [] ?_
    | refine PW.sdrawG kt_119 sc_119 [] hmix (by kernel_rfl) (fun K hK => ?_)
    | refine PW.drawG sc_119 [] hmix (by kernel_rfl) (fun K hK => ?_)
    | refine PW.label ?_
    | omega
    | (split <;> first | contradiction | skip)

/-- What is read later. -/
def kt_82 : List (Nat × List Nat) := [(0, [0]), (1, [2])]
theorem counts_spec (xs : List Int) (hl : xs.length < 4611686018427387904) : Spec Try.prog 82 [ints xs] [(none, .bool (!(xs.any fun n => !inV n 0 1000000)))] := by
  have e1 := ContainsFunc_spec (cap := []) (fun n => !inV n 0 1000000) xs hl (fun x _ => counts1_spec x)
  unfold ints at *
  refine spec_of (nt := 6) (rs := [.tmp 2]) Try.func82 rfl rfl rfl rfl (by simp) (by simp [np]) (fun B => ?_)
  repeat' first
    | exact True.intro
    | refine runQ_step (fun K hK => ?_)
    | refine runQ_end ?_
    | refine PW.sregN kt_82 [] (fun K hK => ?_)
    | simp only [push_cast, ↓reduceIte, Nat.reduceAdd, Nat.reduceSub, Nat.reduceMul, Nat.reduceEqDiff, Nat.reduceLT, Nat.reduceLeDiff, Int.reduceToNat, reduceCtorEq, Int.reduceEq, Int.reduceLT, Int.reduceLE, Int.reduceAdd, Int.reduceSub, Int.reduceMul, Int.reduceNeg, MV.top, kt_82, ti3, ti4, ti22, ti52]
    | refine And.intro ?_ ?_
    | (refine hK _ ?_; clear hK K)
    | (refine hK _ ?_ ?_ <;> clear hK K)
    | apply_assumption (exfalso := false) (symm := false) only [*]
    | refine calP_ret rfl rfl rfl e1 ?_
    | refine PW.seq (fun K hK => ?_)
    | refine PW.ret ?_
    | refine PW.skip ?_
    | refine PW.exit ?_
    | refine PW.block ?_
    | refine PW.condT rfl ?_
    | refine PW.condF rfl ?_
    | (refine PW.condD rfl (fun hc => ?_) (fun hc => ?_) <;> first | (exfalso; omega) | skip)
    | (refine PW.condN rfl (fun hc => ?_) (fun hc => ?_) <;> first | (exfalso; omega) | skip)
    | refine PW.cond rfl (fun hc => ?_) (fun hc => ?_)
    | refine PW.regQ [] ?_
    | refine PW.sdrawG kt_82 sc_82 [] hmix (by kernel_rfl) (fun K hK => ?_)
    | refine PW.drawG sc_82 [] hmix (by kernel_rfl) (fun K hK => ?_)
    | refine PW.label ?_
    | omega
    | (split <;> first | contradiction | skip)
end Go.Pv

