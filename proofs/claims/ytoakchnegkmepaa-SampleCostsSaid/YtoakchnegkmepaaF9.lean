/- Contracts of costs, the second half. -/
import Derived.Test.YtoakchnegkmepaaF8
set_option linter.unusedSimpArgs false
set_option linter.unusedVariables false
set_option maxRecDepth 100000
set_option maxHeartbeats 4000000
namespace Go.Pv
open Go Go.Proofs
attribute [local irreducible] PW Dr DrS DrN DrG DrH Spec SpecB runQ opP calP gdP Still

def costE (o r s e n : Int) : Int := if rulesOk o r s e = true ∧ inV n 0 1000000 = true then 0 else 1

/-- What is read later. -/
def kt_32 : List (Nat × List Nat) := [(0, [1, 2]), (1, [1, 2, 6]), (2, [1, 2, 6, 17]), (3, [4, 5]), (4, [4, 5])]
theorem Cost_spec (o r s e n : Int) : Spec Try.prog 32 [rulesM o r s e, .int .i64 n] [(none, .int .i64 (if costE o r s e n = 0 then costV o r s e n else 0)), (none, .int .i64 (costE o r s e n))] := by
  have e1 := costError_spec o r s e
  have e2 := counts_spec [n] (by simp)
  simp only [List.any_cons, List.any_nil, Bool.or_false, Bool.not_not, ints, List.map_cons, List.map_nil] at e2
  have e3 := First_spec [whenV (!rulesOk o r s e) 1, whenV (!inV n 0 1000000) 1] (by simp)
  have e4 := fun h h0 h1 => cost_spec o r s e n h h0 h1
  unfold rulesM at *
  cases q1 : rulesOk o r s e with
  | false =>
    rw [q1] at e1 e3
    have hr : costE o r s e n = 1 := by simp [costE, q1]
    rw [hr]
    cases q2 : inV n 0 1000000 with
    | false =>
      rw [q2] at e2 e3
      refine spec_of (nt := 22) (rs := [.tmp 4, .tmp 5]) Try.func32 rfl rfl rfl rfl (by simp) (by simp [np]) (fun B => ?_)
      repeat' first
        | exact True.intro
        | refine runQ_step (fun K hK => ?_)
        | refine runQ_end ?_
        | refine PW.sregN kt_32 [2] (fun K hK => ?_)
        | simp only [push_cast, ↓reduceIte, Nat.reduceAdd, Nat.reduceSub, Nat.reduceMul, Nat.reduceEqDiff, Nat.reduceLT, Nat.reduceLeDiff, Int.reduceToNat, reduceCtorEq, Int.reduceEq, Int.reduceLT, Int.reduceLE, Int.reduceAdd, Int.reduceSub, Int.reduceMul, Int.reduceNeg, MV.top, kt_32, ti1, ti2, ti3, ti4, ti22, ti32, ti51, ti97, eqt51]
        | refine And.intro ?_ ?_
        | (refine hK _ ?_; clear hK K)
        | (refine hK _ ?_ ?_ <;> clear hK K)
        | apply_assumption (exfalso := false) (symm := false) only [*]
        | refine calP_lent rfl rfl e1 rfl ?_
        | refine calP_lent rfl rfl e2 rfl ?_
        | refine calP_lent rfl rfl e3 rfl ?_
        | refine calP_lent rfl rfl (When_spec _ _) rfl ?_
        | refine PW.seq (fun K hK => ?_)
        | refine PW.ret ?_
        | refine PW.skip ?_
        | refine PW.exit ?_
        | refine PW.block ?_
        | refine PW.condT rfl ?_
        | refine PW.condF rfl ?_
        | (refine PW.condD rfl (fun hc => ?_) (fun hc => ?_) <;> first | (exfalso; omega) | skip)
        | (refine PW.condN rfl (fun hc => ?_) (fun hc => ?_) <;> first | (exfalso; omega) | skip)
        | refine PW.cond rfl (fun hc => ?_) (fun hc => ?_)
        | refine PW.regQ [2] ?_
        | refine PW.sdrawG kt_32 sc_32 [2] hmix (by kernel_rfl) (fun K hK => ?_)
        | refine PW.drawG sc_32 [2] hmix (by kernel_rfl) (fun K hK => ?_)
        | refine PW.label ?_
        | omega
        | (split <;> first | contradiction | skip)
      all_goals decide
    | true =>
      rw [q2] at e2 e3
      refine spec_of (nt := 22) (rs := [.tmp 4, .tmp 5]) Try.func32 rfl rfl rfl rfl (by simp) (by simp [np]) (fun B => ?_)
      repeat' first
        | exact True.intro
        | refine runQ_step (fun K hK => ?_)
        | refine runQ_end ?_
        | refine PW.sregN kt_32 [2] (fun K hK => ?_)
        | simp only [push_cast, ↓reduceIte, Nat.reduceAdd, Nat.reduceSub, Nat.reduceMul, Nat.reduceEqDiff, Nat.reduceLT, Nat.reduceLeDiff, Int.reduceToNat, reduceCtorEq, Int.reduceEq, Int.reduceLT, Int.reduceLE, Int.reduceAdd, Int.reduceSub, Int.reduceMul, Int.reduceNeg, MV.top, kt_32, ti1, ti2, ti3, ti4, ti22, ti32, ti51, ti97, eqt51]
        | refine And.intro ?_ ?_
        | (refine hK _ ?_; clear hK K)
        | (refine hK _ ?_ ?_ <;> clear hK K)
        | apply_assumption (exfalso := false) (symm := false) only [*]
        | refine calP_lent rfl rfl e1 rfl ?_
        | refine calP_lent rfl rfl e2 rfl ?_
        | refine calP_lent rfl rfl e3 rfl ?_
        | refine calP_lent rfl rfl (When_spec _ _) rfl ?_
        | refine PW.seq (fun K hK => ?_)
        | refine PW.ret ?_
        | refine PW.skip ?_
        | refine PW.exit ?_
        | refine PW.block ?_
        | refine PW.condT rfl ?_
        | refine PW.condF rfl ?_
        | (refine PW.condD rfl (fun hc => ?_) (fun hc => ?_) <;> first | (exfalso; omega) | skip)
        | (refine PW.condN rfl (fun hc => ?_) (fun hc => ?_) <;> first | (exfalso; omega) | skip)
        | refine PW.cond rfl (fun hc => ?_) (fun hc => ?_)
        | refine PW.regQ [2] ?_
        | refine PW.sdrawG kt_32 sc_32 [2] hmix (by kernel_rfl) (fun K hK => ?_)
        | refine PW.drawG sc_32 [2] hmix (by kernel_rfl) (fun K hK => ?_)
        | refine PW.label ?_
        | omega
        | (split <;> first | contradiction | skip)
      all_goals decide
  | true =>
    rw [q1] at e1 e3
    cases q2 : inV n 0 1000000 with
    | false =>
      rw [q2] at e2 e3
      have hr : costE o r s e n = 1 := by simp [costE, q2]
      rw [hr]
      refine spec_of (nt := 22) (rs := [.tmp 4, .tmp 5]) Try.func32 rfl rfl rfl rfl (by simp) (by simp [np]) (fun B => ?_)
      repeat' first
        | exact True.intro
        | refine runQ_step (fun K hK => ?_)
        | refine runQ_end ?_
        | refine PW.sregN kt_32 [2] (fun K hK => ?_)
        | simp only [push_cast, ↓reduceIte, Nat.reduceAdd, Nat.reduceSub, Nat.reduceMul, Nat.reduceEqDiff, Nat.reduceLT, Nat.reduceLeDiff, Int.reduceToNat, reduceCtorEq, Int.reduceEq, Int.reduceLT, Int.reduceLE, Int.reduceAdd, Int.reduceSub, Int.reduceMul, Int.reduceNeg, MV.top, kt_32, ti1, ti2, ti3, ti4, ti22, ti32, ti51, ti97, eqt51]
        | refine And.intro ?_ ?_
        | (refine hK _ ?_; clear hK K)
        | (refine hK _ ?_ ?_ <;> clear hK K)
        | apply_assumption (exfalso := false) (symm := false) only [*]
        | refine calP_lent rfl rfl e1 rfl ?_
        | refine calP_lent rfl rfl e2 rfl ?_
        | refine calP_lent rfl rfl e3 rfl ?_
        | refine calP_lent rfl rfl (When_spec _ _) rfl ?_
        | refine PW.seq (fun K hK => ?_)
        | refine PW.ret ?_
        | refine PW.skip ?_
        | refine PW.exit ?_
        | refine PW.block ?_
        | refine PW.condT rfl ?_
        | refine PW.condF rfl ?_
        | (refine PW.condD rfl (fun hc => ?_) (fun hc => ?_) <;> first | (exfalso; omega) | skip)
        | (refine PW.condN rfl (fun hc => ?_) (fun hc => ?_) <;> first | (exfalso; omega) | skip)
        | refine PW.cond rfl (fun hc => ?_) (fun hc => ?_)
        | refine PW.regQ [2] ?_
        | refine PW.sdrawG kt_32 sc_32 [2] hmix (by kernel_rfl) (fun K hK => ?_)
        | refine PW.drawG sc_32 [2] hmix (by kernel_rfl) (fun K hK => ?_)
        | refine PW.label ?_
        | omega
        | (split <;> first | contradiction | skip)
      all_goals decide
    | true =>
      rw [q2] at e2 e3
      have hr : costE o r s e n = 0 := by simp [costE, q1, q2]
      rw [hr]
      have hb : 0 ≤ n ∧ n ≤ 1000000 := by simpa [inV] using q2
      have e5 := e4 q1 hb.1 (by omega)
      refine spec_of (nt := 22) (rs := [.tmp 4, .tmp 5]) Try.func32 rfl rfl rfl rfl (by simp) (by simp [np]) (fun B => ?_)
      repeat' first
        | exact True.intro
        | refine runQ_step (fun K hK => ?_)
        | refine runQ_end ?_
        | refine PW.sregN kt_32 [2] (fun K hK => ?_)
        | simp only [push_cast, ↓reduceIte, Nat.reduceAdd, Nat.reduceSub, Nat.reduceMul, Nat.reduceEqDiff, Nat.reduceLT, Nat.reduceLeDiff, Int.reduceToNat, reduceCtorEq, Int.reduceEq, Int.reduceLT, Int.reduceLE, Int.reduceAdd, Int.reduceSub, Int.reduceMul, Int.reduceNeg, MV.top, kt_32, ti1, ti2, ti3, ti4, ti22, ti32, ti51, ti97, eqt51]
        | refine And.intro ?_ ?_
        | (refine hK _ ?_; clear hK K)
        | (refine hK _ ?_ ?_ <;> clear hK K)
        | apply_assumption (exfalso := false) (symm := false) only [*]
        | refine calP_lent rfl rfl e1 rfl ?_
        | refine calP_lent rfl rfl e2 rfl ?_
        | refine calP_lent rfl rfl e3 rfl ?_
        | refine calP_lent rfl rfl (When_spec _ _) rfl ?_
        | refine calP_lent rfl rfl e5 rfl ?_
        | refine PW.seq (fun K hK => ?_)
        | refine PW.ret ?_
        | refine PW.skip ?_
        | refine PW.exit ?_
        | refine PW.block ?_
        | refine PW.condT rfl ?_
        | refine PW.condF rfl ?_
        | (refine PW.condD rfl (fun hc => ?_) (fun hc => ?_) <;> first | (exfalso; omega) | skip)
        | (refine PW.condN rfl (fun hc => ?_) (fun hc => ?_) <;> first | (exfalso; omega) | skip)
        | refine PW.cond rfl (fun hc => ?_) (fun hc => ?_)
        | refine PW.regQ [2] ?_
        | refine PW.sdrawG kt_32 sc_32 [2] hmix (by kernel_rfl) (fun K hK => ?_)
        | refine PW.drawG sc_32 [2] hmix (by kernel_rfl) (fun K hK => ?_)
        | refine PW.label ?_
        | omega
        | (split <;> first | contradiction | skip)

/-- Plans for open orders. -/
def sc_84 : List (Nat × Sc) := [(1, .take 0 (.take 1 (.take 3 (.one 2 [3] (.take 4 (.one 5 [] (.fin)))))))]
/-- What is read later. -/
def kt_84 : List (Nat × List Nat) := [(0, [0, 1, 2]), (1, [4])]
theorem Afford1_spec (o r s e c n : Int) (h : rulesOk o r s e = true) (h0 : 0 ≤ n) (h1 : n ≤ 1000001) : Spec Try.prog 84 [.int .i64 n, .cptr [.int .i64 o, .int .i64 r, .int .i64 s, .int .i64 e] 0, .cptr [.int .i64 c] 0] [(none, .bool (decide (c < costV o r s e n)))] := by
  have e1 := cost_spec o r s e n h h0 h1
  unfold rulesM at *
  refine spec_of (nt := 10) (rs := [.tmp 4]) Try.func84 rfl rfl rfl rfl (by simp) (by simp [np]) (fun B => ?_)
  repeat' first
    | exact True.intro
    | refine runQ_step (fun K hK => ?_)
    | refine runQ_end ?_
    | refine PW.sregN kt_84 [] (fun K hK => ?_)
    | simp only [push_cast, ↓reduceIte, Nat.reduceAdd, Nat.reduceSub, Nat.reduceMul, Nat.reduceEqDiff, Nat.reduceLT, Nat.reduceLeDiff, Int.reduceToNat, reduceCtorEq, Int.reduceEq, Int.reduceLT, Int.reduceLE, Int.reduceAdd, Int.reduceSub, Int.reduceMul, Int.reduceNeg, MV.top, kt_84, ti1, ti2, ti3, ti4, ti51, eqt51]
    | refine And.intro ?_ ?_
    | (refine hK _ ?_; clear hK K)
    | (refine hK _ ?_ ?_ <;> clear hK K)
    | apply_assumption (exfalso := false) (symm := false) only [*]
    | refine DrG.take rfl rfl rfl (by kernel_rfl) rfl (fun K hK => ?_)
    | refine DrG.one rfl rfl (by kernel_rfl) (by kernel_rfl) (by kernel_rfl) (fun K hK => ?_)
    | refine DrG.fin rfl (by kernel_rfl) (by kernel_rfl) ?_
    | refine Still.ofR rfl rfl rfl (by kernel_rfl) rfl (fun K hK => ?_)
    | refine calP_lent rfl rfl e1 rfl ?_
    | refine PW.seq (fun K hK => ?_)
    | refine PW.ret ?_
    | refine PW.skip ?_
    | refine PW.exit ?_
    | refine PW.block ?_
    | refine PW.condT rfl ?_
    | refine PW.condF rfl ?_
    | (refine PW.condD rfl (fun hc => ?_) (fun hc => ?_) <;> first | (exfalso; omega) | skip)
    | (refine PW.condN rfl (fun hc => ?_) (fun hc => ?_) <;> first | (exfalso; omega) | skip)
    | refine PW.cond rfl (fun hc => ?_) (fun hc => ?_)
    | refine PW.regQ [] ?_
    | refine PW.sdrawG kt_84 sc_84 [] hmix (by kernel_rfl) (fun K hK => ?_)
    | refine PW.drawG sc_84 [] hmix (by kernel_rfl) (fun K hK => ?_)
    | refine PW.label ?_
    | omega
    | (split <;> first | contradiction | skip)

theorem exists_cut (p : Int → Bool) (lo : Int) : ∀ (k : Nat), (∀ n m, lo ≤ n → n ≤ m → p n = true → p m = true) → ∃ r, lo ≤ r ∧ r ≤ lo + k ∧ (∀ n, lo ≤ n → n < r → p n = false) ∧ (∀ n, r ≤ n → n < lo + k → p n = true)
  | 0, _ => ⟨lo, by omega, by omega, fun n h1 h2 => by omega, fun n h1 h2 => by omega⟩
  | k + 1, hm => by
    obtain ⟨r, h1, h2, h3, h4⟩ := exists_cut p lo k hm
    by_cases hr : r = lo + k
    · cases hp : p (lo + k) with
      | true => exact ⟨r, h1, by omega, h3, fun n g1 g2 => by rw [show n = lo + k from by omega]; exact hp⟩
      | false => exact ⟨lo + k + 1, by omega, by omega, fun n g1 g2 => by
          by_cases hn : n = lo + k
          · rw [hn]; exact hp
          · exact h3 n g1 (by omega), fun n g1 g2 => by omega⟩
    · exact ⟨r, h1, by omega, h3, fun n g1 g2 => hm r n h1 g1 (h4 r (by omega) (by omega))⟩

theorem cost_mono {o r s e n m : Int} (h : rulesOk o r s e = true) (h0 : 0 ≤ n) (h1 : n ≤ m) : costV o r s e n ≤ costV o r s e m := by
  obtain ⟨h2, h3, h4, h5⟩ := rules_bd h
  have b1 := Int.mul_le_mul_of_nonneg_right h1 h3.1
  unfold costV
  by_cases he : 0 < e
  · rw [if_pos he, if_pos he, Int.tdiv_eq_ediv_of_nonneg h0, Int.tdiv_eq_ediv_of_nonneg (by omega)]
    have b2 := Int.mul_le_mul_of_nonneg_right (Int.ediv_le_ediv he h1) h4.1
    omega
  · rw [if_neg he, if_neg he]; omega

/-- The number of items from which on it costs more than c. -/
theorem cost_cut {o r s e c : Int} (h : rulesOk o r s e = true) : ∃ t, 0 ≤ t ∧ t ≤ 1000001 ∧ (∀ n, 0 ≤ n → n < t → decide (c < costV o r s e n) = false) ∧ (∀ n, t ≤ n → n < 1000001 → decide (c < costV o r s e n) = true) := by
  obtain ⟨t, h1, h2, h3, h4⟩ := exists_cut (fun n => decide (c < costV o r s e n)) 0 1000001 (fun n m g0 g1 g2 => by
    have := cost_mono h g0 g1
    simp only [decide_eq_true_eq] at g2 ⊢
    omega)
  exact ⟨t, h1, by omega, h3, fun n g1 g2 => h4 n g1 (by omega)⟩

theorem cost_zero (o r s e : Int) : costV o r s e 0 = o := by simp [costV]

def affordE (o r s e c : Int) : Int := firstV [whenV (!rulesOk o r s e) 1, whenV (!inV c 0 10000000000000000) 1, whenV (decide (c < o)) 16]

/-- Plans for open orders. -/
def sc_33 : List (Nat × Sc) := [(1, .take 0 (.take 2 (.take 6 (.take 7 (.take 8 (.take 9 (.one 1 [9, 8, 7, 6, 2] (.one 3 [9, 8, 7, 6] (.take 4 (.one 5 [9, 8, 7, 6] (.one 10 [8, 7, 6] (.one 11 [8, 7, 6] (.one 12 [8, 7, 6] (.one 13 [] (.fin)))))))))))))))]
/-- What is read later. -/
def kt_33 : List (Nat × List Nat) := [(0, [2, 3]), (1, [2, 3, 6]), (2, [2, 3, 6, 21]), (3, [4, 5]), (4, [4, 5])]
theorem Afford_bad (o r s e c : Int) (h : affordE o r s e c ≠ 0) : Spec Try.prog 33 [rulesM o r s e, .int .i64 c] [(none, .int .i64 0), (none, .int .i64 (affordE o r s e c))] := by
  have e1 := costError_spec o r s e
  have e3 := First_spec [whenV (!rulesOk o r s e) 1, whenV (!inV c 0 10000000000000000) 1, whenV (decide (c < o)) 16] (by simp)
  change Spec _ _ _ [(none, .int .i64 (affordE o r s e c))] at e3
  generalize affordE o r s e c = x at e3 h
  unfold rulesM at *
  refine spec_of (nt := 26) (rs := [.tmp 4, .tmp 5]) Try.func33 rfl rfl rfl rfl (by simp) (by simp [np]) (fun B => ?_)
  repeat' first
    | exact True.intro
    | refine runQ_step (fun K hK => ?_)
    | refine runQ_end ?_
    | refine PW.sregN kt_33 [2, 3] (fun K hK => ?_)
    | simp only [push_cast, ↓reduceIte, Nat.reduceAdd, Nat.reduceSub, Nat.reduceMul, Nat.reduceEqDiff, Nat.reduceLT, Nat.reduceLeDiff, Int.reduceToNat, reduceCtorEq, Int.reduceEq, Int.reduceLT, Int.reduceLE, Int.reduceAdd, Int.reduceSub, Int.reduceMul, Int.reduceNeg, MV.top, kt_33, ti1, ti2, ti3, ti4, ti32, ti51, ti52, ti84, ti97, eqt51, h]
    | refine And.intro ?_ ?_
    | (refine hK _ ?_; clear hK K)
    | (refine hK _ ?_ ?_ <;> clear hK K)
    | apply_assumption (exfalso := false) (symm := false) only [*]
    | refine DrG.take rfl rfl rfl (by kernel_rfl) rfl (fun K hK => ?_)
    | refine DrG.one rfl rfl (by kernel_rfl) (by kernel_rfl) (by kernel_rfl) (fun K hK => ?_)
    | refine DrG.fin rfl (by kernel_rfl) (by kernel_rfl) ?_
    | refine Still.ofR rfl rfl rfl (by kernel_rfl) rfl (fun K hK => ?_)
    | refine calP_lent rfl rfl e1 rfl ?_
    | refine calP_lent rfl rfl e3 rfl ?_
    | refine calP_lent rfl rfl (When_spec _ _) rfl ?_
    | refine calP_lent rfl rfl (In_spec _ _ _) rfl ?_
    | refine PW.seq (fun K hK => ?_)
    | refine PW.ret ?_
    | refine PW.skip ?_
    | refine PW.exit ?_
    | refine PW.block ?_
    | refine PW.condT rfl ?_
    | refine PW.condF rfl ?_
    | (refine PW.condD rfl (fun hc => ?_) (fun hc => ?_) <;> first | (exfalso; omega) | skip)
    | (refine PW.condN rfl (fun hc => ?_) (fun hc => ?_) <;> first | (exfalso; omega) | skip)
    | refine PW.cond rfl (fun hc => ?_) (fun hc => ?_)
    | refine PW.regQ [2, 3] ?_
    | refine PW.sdrawG kt_33 sc_33 [2, 3] hmix (by kernel_rfl) (fun K hK => ?_)
    | refine PW.drawG sc_33 [2, 3] hmix (by kernel_rfl) (fun K hK => ?_)
    | refine PW.label ?_
    | omega
    | (split <;> first | contradiction | skip)

theorem Afford_good (o r s e c t : Int) (h : affordE o r s e c = 0) (hr : rulesOk o r s e = true) (h1 : 1 ≤ t) (h2 : t ≤ 1000001) (h3 : ∀ n, 0 ≤ n → n < t → decide (c < costV o r s e n) = false) (h4 : ∀ n, t ≤ n → n < 1000001 → decide (c < costV o r s e n) = true) :
    Spec Try.prog 33 [rulesM o r s e, .int .i64 c] [(none, .int .i64 (t - 1)), (none, .int .i64 0)] := by
  have e1 := costError_spec o r s e
  have e3 := First_spec [whenV (!rulesOk o r s e) 1, whenV (!inV c 0 10000000000000000) 1, whenV (decide (c < o)) 16] (by simp)
  change Spec _ _ _ [(none, .int .i64 (affordE o r s e c))] at e3
  rw [h] at e3
  have e4 : Spec Try.prog 70 [.int .i64 1, .int .i64 1000001, .fn 84 [.cptr [.int .i64 o, .int .i64 r, .int .i64 s, .int .i64 e] 0, .cptr [.int .i64 c] 0]] [(none, .int .i64 t)] :=
    first_spec (fun n => decide (c < costV o r s e n)) 1 1000001 t (by omega) h1 h2 (by omega) (fun n g1 g2 => h3 n (by omega) g2) h4 (fun n g1 g2 => Afford1_spec o r s e c n hr (by omega) (by omega))
  have hw : IntKind.i64.wrap (t - 1) = t - 1 := wrap_id (by omega) (by omega)
  clear h3 h4
  unfold rulesM at *
  refine spec_of (nt := 26) (rs := [.tmp 4, .tmp 5]) Try.func33 rfl rfl rfl rfl (by simp) (by simp [np]) (fun B => ?_)
  repeat' first
    | exact True.intro
    | refine runQ_step (fun K hK => ?_)
    | refine runQ_end ?_
    | refine PW.sregN kt_33 [2, 3] (fun K hK => ?_)
    | simp only [push_cast, ↓reduceIte, Nat.reduceAdd, Nat.reduceSub, Nat.reduceMul, Nat.reduceEqDiff, Nat.reduceLT, Nat.reduceLeDiff, Int.reduceToNat, reduceCtorEq, Int.reduceEq, Int.reduceLT, Int.reduceLE, Int.reduceAdd, Int.reduceSub, Int.reduceMul, Int.reduceNeg, MV.top, kt_33, ti1, ti2, ti3, ti4, ti32, ti51, ti52, ti84, ti97, eqt51, hw]
    | refine And.intro ?_ ?_
    | (refine hK _ ?_; clear hK K)
    | (refine hK _ ?_ ?_ <;> clear hK K)
    | apply_assumption (exfalso := false) (symm := false) only [*]
    | refine DrG.take rfl rfl rfl (by kernel_rfl) rfl (fun K hK => ?_)
    | refine DrG.one rfl rfl (by kernel_rfl) (by kernel_rfl) (by kernel_rfl) (fun K hK => ?_)
    | refine DrG.fin rfl (by kernel_rfl) (by kernel_rfl) ?_
    | refine Still.ofR rfl rfl rfl (by kernel_rfl) rfl (fun K hK => ?_)
    | refine calP_lent rfl rfl e1 rfl ?_
    | refine calP_lent rfl rfl e3 rfl ?_
    | refine calP_lent rfl rfl (When_spec _ _) rfl ?_
    | refine calP_lent rfl rfl (In_spec _ _ _) rfl ?_
    | refine calP_lent rfl rfl e4 rfl ?_
    | refine PW.seq (fun K hK => ?_)
    | refine PW.ret ?_
    | refine PW.skip ?_
    | refine PW.exit ?_
    | refine PW.block ?_
    | refine PW.condT rfl ?_
    | refine PW.condF rfl ?_
    | (refine PW.condD rfl (fun hc => ?_) (fun hc => ?_) <;> first | (exfalso; omega) | skip)
    | (refine PW.condN rfl (fun hc => ?_) (fun hc => ?_) <;> first | (exfalso; omega) | skip)
    | refine PW.cond rfl (fun hc => ?_) (fun hc => ?_)
    | refine PW.regQ [2, 3] ?_
    | refine PW.sdrawG kt_33 sc_33 [2, 3] hmix (by kernel_rfl) (fun K hK => ?_)
    | refine PW.drawG sc_33 [2, 3] hmix (by kernel_rfl) (fun K hK => ?_)
    | refine PW.label ?_
    | omega
    | (split <;> first | contradiction | skip)

/-- What is read later. -/
def kt_34 : List (Nat × List Nat) := [(0, [1]), (1, [1, 11, 12, 13]), (2, [1, 11, 12, 13, 14]), (3, [1, 4, 11, 12, 13]), (4, [1, 11, 12, 13, 19]), (5, [2]), (6, [1, 11, 12, 13]), (7, [24]), (8, [2]), (9, [2])]
theorem CostsFault_spec (o r s e : Int) : Spec Try.prog 34 [rulesM o r s e] [(none, .int .i64 (whenV (!rulesOk o r s e) 1))] := by
  have hr : rulesOk o r s e = ([o, r, s].all (fun n => inV n 0 1000000000) && inV e 0 1000000) := by simp [rulesOk, Bool.and_assoc]
  rw [hr]
  obtain ⟨xs, hx⟩ : ∃ xs, xs = [o, r, s] := ⟨_, rfl⟩
  have hl : xs.length = 3 := by rw [hx]; rfl
  have hrow : ([[.int .i64 o], [.int .i64 r], [.int .i64 s]] : List (List MV)) = xs.map fun x => [MV.int .i64 x] := by rw [hx]; rfl
  rw [← hx]
  unfold rulesM
  refine spec_of (nt := 25) (rs := [.tmp 2]) Try.func34 rfl rfl rfl rfl (by simp) (by simp [np]) (fun B => ?_)
  repeat' first
    | exact True.intro
    | refine runQ_step (fun K hK => ?_)
    | refine runQ_end ?_
    | refine PW.sregN kt_34 [1] (fun K hK => ?_)
    | simp only [push_cast, ↓reduceIte, Nat.reduceAdd, Nat.reduceSub, Nat.reduceMul, Nat.reduceEqDiff, Nat.reduceLT, Nat.reduceLeDiff, Int.reduceToNat, reduceCtorEq, Int.reduceEq, Int.reduceLT, Int.reduceLE, Int.reduceAdd, Int.reduceSub, Int.reduceMul, Int.reduceNeg, MV.top, kt_34, ti1, ti2, ti3, ti4, ti22, ti32, ti51, eqt51]
    | refine And.intro ?_ ?_
    | (refine hK _ ?_; clear hK K)
    | (refine hK _ ?_ ?_ <;> clear hK K)
    | apply_assumption (exfalso := false) (symm := false) only [*]
    | refine PW.seq (fun K hK => ?_)
    | refine PW.ret ?_
    | refine PW.skip ?_
    | refine PW.exit ?_
    | refine PW.block ?_
    | refine PW.condT rfl ?_
    | refine PW.condF rfl ?_
    | (refine PW.condD rfl (fun hc => ?_) (fun hc => ?_) <;> first | (exfalso; omega) | skip)
    | (refine PW.condN rfl (fun hc => ?_) (fun hc => ?_) <;> first | (exfalso; omega) | skip)
    | refine PW.cond rfl (fun hc => ?_) (fun hc => ?_)
    | refine PW.regQ [1] ?_
    | refine PW.sdrawG kt_34 sc_34 [1] hmix (by kernel_rfl) (fun K hK => ?_)
    | refine PW.drawG sc_34 [1] hmix (by kernel_rfl) (fun K hK => ?_)
    | refine PW.label ?_
    | omega
    | (split <;> first | contradiction | skip)
  rw [hrow]
  refine PW.loopN [1, 11, 12, 13] (fun i : Nat => ⟨[(1, .sh (.cptr [.int .i64 o, .int .i64 r, .int .i64 s, .int .i64 e] 0)), (11, .own 1 (.list (xs.map fun x => [.int .i64 x]))), (12, .sh (.int .i64 3)), (13, .sh (.int .i64 (i : Int)))], B⟩) (fun i => i ≤ 3 ∧ (xs.drop i).all (fun n => inV n 0 1000000000) = xs.all (fun n => inV n 0 1000000000)) (fun i => 3 - i) 0 ?_ ⟨by omega, rfl⟩ (fun i hi => ?_)
  · simp only [push_cast, ↓reduceIte, Nat.reduceAdd, Nat.reduceSub, Nat.reduceMul, Nat.reduceEqDiff, Nat.reduceLT, Nat.reduceLeDiff, Int.reduceToNat, reduceCtorEq, Int.reduceEq, Int.reduceLT, Int.reduceLE, Int.reduceAdd, Int.reduceSub, Int.reduceMul, Int.reduceNeg, MV.top, kt_34, ti1, ti2, ti3, ti4, ti22, ti32, ti51]
  clear hrow hx hr
  obtain ⟨h1, h2⟩ := hi
  by_cases hlt : i < 3
  · have hlx : i < xs.length := by omega
    have hge := ints_get hlx
    have hlt2 : (i : Int) < 3 := by omega
    rw [all_drop hlx] at h2
    generalize xs[i] = x at hge h2
    cases q1 : inV x 0 1000000000 with
    | false =>
      rw [q1, Bool.false_and] at h2
      rw [← h2]
      repeat' first
        | exact True.intro
        | refine runQ_step (fun K hK => ?_)
        | refine runQ_end ?_
        | refine PW.sregN kt_34 [1] (fun K hK => ?_)
        | simp only [push_cast, ↓reduceIte, Nat.reduceAdd, Nat.reduceSub, Nat.reduceMul, Nat.reduceEqDiff, Nat.reduceLT, Nat.reduceLeDiff, Int.reduceToNat, reduceCtorEq, Int.reduceEq, Int.reduceLT, Int.reduceLE, Int.reduceAdd, Int.reduceSub, Int.reduceMul, Int.reduceNeg, MV.top, kt_34, ti1, ti2, ti3, ti4, ti22, ti32, ti51, eqt51, hlt2, hge, q1, hl, List.length_map, Int.toNat_natCast]
        | refine And.intro ?_ ?_
        | (refine hK _ ?_; clear hK K)
        | (refine hK _ ?_ ?_ <;> clear hK K)
        | apply_assumption (exfalso := false) (symm := false) only [*]
        | refine calP_lent rfl rfl (rin_spec _ _ _) rfl ?_
        | refine PW.seq (fun K hK => ?_)
        | refine PW.ret ?_
        | refine PW.skip ?_
        | refine PW.exit ?_
        | refine PW.block ?_
        | refine PW.condT rfl ?_
        | refine PW.condF rfl ?_
        | (refine PW.condD rfl (fun hc => ?_) (fun hc => ?_) <;> first | (exfalso; omega) | skip)
        | (refine PW.condN rfl (fun hc => ?_) (fun hc => ?_) <;> first | (exfalso; omega) | skip)
        | refine PW.cond rfl (fun hc => ?_) (fun hc => ?_)
        | refine PW.regQ [1] ?_
        | refine PW.sdrawG kt_34 sc_34 [1] hmix (by kernel_rfl) (fun K hK => ?_)
        | refine PW.drawG sc_34 [1] hmix (by kernel_rfl) (fun K hK => ?_)
        | refine PW.label ?_
        | omega
        | (split <;> first | contradiction | skip)
      all_goals simp [whenV]
    | true =>
      rw [q1, Bool.true_and] at h2
      repeat' first
        | exact True.intro
        | refine runQ_step (fun K hK => ?_)
        | refine runQ_end ?_
        | refine PW.sregN kt_34 [1] (fun K hK => ?_)
        | simp only [push_cast, ↓reduceIte, Nat.reduceAdd, Nat.reduceSub, Nat.reduceMul, Nat.reduceEqDiff, Nat.reduceLT, Nat.reduceLeDiff, Int.reduceToNat, reduceCtorEq, Int.reduceEq, Int.reduceLT, Int.reduceLE, Int.reduceAdd, Int.reduceSub, Int.reduceMul, Int.reduceNeg, MV.top, kt_34, ti1, ti2, ti3, ti4, ti22, ti32, ti51, eqt51, hlt2, hge, q1, hl, List.length_map, Int.toNat_natCast]
        | refine And.intro ?_ ?_
        | (refine hK _ ?_; clear hK K)
        | (refine hK _ ?_ ?_ <;> clear hK K)
        | apply_assumption (exfalso := false) (symm := false) only [*]
        | refine calP_lent rfl rfl (rin_spec _ _ _) rfl ?_
        | refine PW.seq (fun K hK => ?_)
        | refine PW.ret ?_
        | refine PW.skip ?_
        | refine PW.exit ?_
        | refine PW.block ?_
        | refine PW.condT rfl ?_
        | refine PW.condF rfl ?_
        | (refine PW.condD rfl (fun hc => ?_) (fun hc => ?_) <;> first | (exfalso; omega) | skip)
        | (refine PW.condN rfl (fun hc => ?_) (fun hc => ?_) <;> first | (exfalso; omega) | skip)
        | refine PW.cond rfl (fun hc => ?_) (fun hc => ?_)
        | refine PW.regQ [1] ?_
        | refine PW.sdrawG kt_34 sc_34 [1] hmix (by kernel_rfl) (fun K hK => ?_)
        | refine PW.drawG sc_34 [1] hmix (by kernel_rfl) (fun K hK => ?_)
        | refine PW.label ?_
        | omega
        | (split <;> first | contradiction | skip)
      exact ⟨i + 1, by rw [wrap_nat (by omega)], ⟨by omega, h2⟩, by omega⟩
  · have hlt2 : ¬ (i : Int) < 3 := by omega
    rw [List.drop_of_length_le (by omega)] at h2
    rw [← h2]
    cases q1 : inV e 0 1000000 with
    | false =>
      repeat' first
        | exact True.intro
        | refine runQ_step (fun K hK => ?_)
        | refine runQ_end ?_
        | refine PW.sregN kt_34 [1] (fun K hK => ?_)
        | simp only [push_cast, ↓reduceIte, Nat.reduceAdd, Nat.reduceSub, Nat.reduceMul, Nat.reduceEqDiff, Nat.reduceLT, Nat.reduceLeDiff, Int.reduceToNat, reduceCtorEq, Int.reduceEq, Int.reduceLT, Int.reduceLE, Int.reduceAdd, Int.reduceSub, Int.reduceMul, Int.reduceNeg, MV.top, kt_34, ti1, ti2, ti3, ti4, ti22, ti32, ti51, eqt51, hlt2, q1]
        | refine And.intro ?_ ?_
        | (refine hK _ ?_; clear hK K)
        | (refine hK _ ?_ ?_ <;> clear hK K)
        | apply_assumption (exfalso := false) (symm := false) only [*]
        | refine calP_lent rfl rfl (rin_spec _ _ _) rfl ?_
        | refine PW.seq (fun K hK => ?_)
        | refine PW.ret ?_
        | refine PW.skip ?_
        | refine PW.exit ?_
        | refine PW.block ?_
        | refine PW.condT rfl ?_
        | refine PW.condF rfl ?_
        | (refine PW.condD rfl (fun hc => ?_) (fun hc => ?_) <;> first | (exfalso; omega) | skip)
        | (refine PW.condN rfl (fun hc => ?_) (fun hc => ?_) <;> first | (exfalso; omega) | skip)
        | refine PW.cond rfl (fun hc => ?_) (fun hc => ?_)
        | refine PW.regQ [1] ?_
        | refine PW.sdrawG kt_34 sc_34 [1] hmix (by kernel_rfl) (fun K hK => ?_)
        | refine PW.drawG sc_34 [1] hmix (by kernel_rfl) (fun K hK => ?_)
        | refine PW.label ?_
        | omega
        | (split <;> first | contradiction | skip)
      all_goals rfl
    | true =>
      repeat' first
        | exact True.intro
        | refine runQ_step (fun K hK => ?_)
        | refine runQ_end ?_
        | refine PW.sregN kt_34 [1] (fun K hK => ?_)
        | simp only [push_cast, ↓reduceIte, Nat.reduceAdd, Nat.reduceSub, Nat.reduceMul, Nat.reduceEqDiff, Nat.reduceLT, Nat.reduceLeDiff, Int.reduceToNat, reduceCtorEq, Int.reduceEq, Int.reduceLT, Int.reduceLE, Int.reduceAdd, Int.reduceSub, Int.reduceMul, Int.reduceNeg, MV.top, kt_34, ti1, ti2, ti3, ti4, ti22, ti32, ti51, eqt51, hlt2, q1]
        | refine And.intro ?_ ?_
        | (refine hK _ ?_; clear hK K)
        | (refine hK _ ?_ ?_ <;> clear hK K)
        | apply_assumption (exfalso := false) (symm := false) only [*]
        | refine calP_lent rfl rfl (rin_spec _ _ _) rfl ?_
        | refine PW.seq (fun K hK => ?_)
        | refine PW.ret ?_
        | refine PW.skip ?_
        | refine PW.exit ?_
        | refine PW.block ?_
        | refine PW.condT rfl ?_
        | refine PW.condF rfl ?_
        | (refine PW.condD rfl (fun hc => ?_) (fun hc => ?_) <;> first | (exfalso; omega) | skip)
        | (refine PW.condN rfl (fun hc => ?_) (fun hc => ?_) <;> first | (exfalso; omega) | skip)
        | refine PW.cond rfl (fun hc => ?_) (fun hc => ?_)
        | refine PW.regQ [1] ?_
        | refine PW.sdrawG kt_34 sc_34 [1] hmix (by kernel_rfl) (fun K hK => ?_)
        | refine PW.drawG sc_34 [1] hmix (by kernel_rfl) (fun K hK => ?_)
        | refine PW.label ?_
        | omega
        | (split <;> first | contradiction | skip)
      all_goals (rw [← h2]; rfl)

/-- What is read later. -/
def kt_36 : List (Nat × List Nat) := [(0, [1, 2]), (1, [1, 2, 6, 7]), (2, [1, 2, 6, 7, 12]), (3, [1, 2, 6, 7, 8]), (4, [1, 2, 6, 7, 8, 21]), (5, [1, 2, 6, 7]), (6, [1, 2, 6, 7]), (7, [4, 5])]
theorem AffordOf_spec (o r s e c t : Int) (hr : rulesOk o r s e = true) (h1 : 0 ≤ t) (h2 : t ≤ 1000001) (h3 : ∀ n, 0 ≤ n → n < t → decide (c < costV o r s e n) = false) (h4 : ∀ n, t ≤ n → n < 1000001 → decide (c < costV o r s e n) = true) :
    Spec Try.prog 36 [rulesM o r s e, .int .i64 c] [(none, .int .i64 (mm2 true 0 (t - 1))), (none, .bool (decide (0 ≤ t - 1)))] := by
  have e1 := fun n => CostOf_spec o r s e n hr
  unfold rulesM at *
  refine spec_of (nt := 28) (rs := [.tmp 4, .tmp 5]) Try.func36 rfl rfl rfl rfl (by simp) (by simp [np]) (fun B => ?_)
  repeat' first
    | exact True.intro
    | refine runQ_step (fun K hK => ?_)
    | refine runQ_end ?_
    | refine PW.sregN kt_36 [2] (fun K hK => ?_)
    | simp only [push_cast, ↓reduceIte, Nat.reduceAdd, Nat.reduceSub, Nat.reduceMul, Nat.reduceEqDiff, Nat.reduceLT, Nat.reduceLeDiff, Int.reduceToNat, reduceCtorEq, Int.reduceEq, Int.reduceLT, Int.reduceLE, Int.reduceAdd, Int.reduceSub, Int.reduceMul, Int.reduceNeg, MV.top, kt_36, ti1, ti2, ti3, ti4, ti51, eqt51]
    | refine And.intro ?_ ?_
    | (refine hK _ ?_; clear hK K)
    | (refine hK _ ?_ ?_ <;> clear hK K)
    | apply_assumption (exfalso := false) (symm := false) only [*]
    | refine PW.seq (fun K hK => ?_)
    | refine PW.ret ?_
    | refine PW.skip ?_
    | refine PW.exit ?_
    | refine PW.block ?_
    | refine PW.condT rfl ?_
    | refine PW.condF rfl ?_
    | (refine PW.condD rfl (fun hc => ?_) (fun hc => ?_) <;> first | (exfalso; omega) | skip)
    | (refine PW.condN rfl (fun hc => ?_) (fun hc => ?_) <;> first | (exfalso; omega) | skip)
    | refine PW.cond rfl (fun hc => ?_) (fun hc => ?_)
    | refine PW.regQ [2] ?_
    | refine PW.sdrawG kt_36 sc_36 [2] hmix (by kernel_rfl) (fun K hK => ?_)
    | refine PW.drawG sc_36 [2] hmix (by kernel_rfl) (fun K hK => ?_)
    | refine PW.label ?_
    | omega
    | (split <;> first | contradiction | skip)
  refine PW.loopN [1, 2, 6, 7] (fun q : Int × Int => ⟨[(1, .sh (.int .i64 c)), (2, .sh (.cptr [.int .i64 o, .int .i64 r, .int .i64 s, .int .i64 e] 0)), (6, .sh (.int .i64 q.1)), (7, .sh (.int .i64 q.2))], B⟩) (fun q => -1 ≤ q.1 ∧ q.1 < t ∧ t ≤ q.2 ∧ q.2 ≤ 1000001) (fun q => (q.2 - q.1).toNat) (-1, 1000001) ?_ ⟨by omega, by omega, h2, by omega⟩ (fun q hq => ?_)
  · simp only [push_cast, ↓reduceIte, Nat.reduceAdd, Nat.reduceSub, Nat.reduceMul, Nat.reduceEqDiff, Nat.reduceLT, Nat.reduceLeDiff, Int.reduceToNat, reduceCtorEq, Int.reduceEq, Int.reduceLT, Int.reduceLE, Int.reduceAdd, Int.reduceSub, Int.reduceMul, Int.reduceNeg, MV.top, kt_36, ti1, ti2, ti3, ti4, ti51]
  obtain ⟨a, b⟩ := q
  obtain ⟨g1, g2, g3, g4⟩ := hq
  simp only at g1 g2 g3 g4
  have hw1 : IntKind.i64.wrap (b - a) = b - a := wrap_id (by omega) (by omega)
  by_cases hlt : 1 < b - a
  · obtain ⟨m, hm⟩ : ∃ m, m = (a + b).tdiv 2 := ⟨_, rfl⟩
    have hq : (a + b).tdiv 2 = (a + b) / 2 := Int.tdiv_eq_ediv_of_nonneg (by omega)
    have hw2 : IntKind.i64.wrap (a + b) = a + b := wrap_id (by omega) (by omega)
    have hw3 : IntKind.i64.wrap ((a + b).tdiv 2) = m := by rw [← hm]; exact wrap_id (by omega) (by omega)
    have hm1 : a < m := by omega
    have hm2 : m < b := by omega
    have hc1 := e1 m (by omega) (by omega)
    clear e1
    by_cases hmt : m < t
    · have := h3 m (by omega) hmt
      have hle : costV o r s e m ≤ c := by simpa using this
      generalize costV o r s e m = y at hc1 hle
      clear h3 h4 this
      repeat' first
        | exact True.intro
        | refine runQ_step (fun K hK => ?_)
        | refine runQ_end ?_
        | refine PW.sregN kt_36 [2] (fun K hK => ?_)
        | simp only [push_cast, ↓reduceIte, Nat.reduceAdd, Nat.reduceSub, Nat.reduceMul, Nat.reduceEqDiff, Nat.reduceLT, Nat.reduceLeDiff, Int.reduceToNat, reduceCtorEq, Int.reduceEq, Int.reduceLT, Int.reduceLE, Int.reduceAdd, Int.reduceSub, Int.reduceMul, Int.reduceNeg, MV.top, kt_36, ti1, ti2, ti3, ti4, ti51, eqt51, hlt, hw1, hw2, hw3, hle]
        | refine And.intro ?_ ?_
        | (refine hK _ ?_; clear hK K)
        | (refine hK _ ?_ ?_ <;> clear hK K)
        | apply_assumption (exfalso := false) (symm := false) only [*]
        | refine calP_lent rfl rfl hc1 rfl ?_
        | refine PW.seq (fun K hK => ?_)
        | refine PW.ret ?_
        | refine PW.skip ?_
        | refine PW.exit ?_
        | refine PW.block ?_
        | refine PW.condT rfl ?_
        | refine PW.condF rfl ?_
        | (refine PW.condD rfl (fun hc => ?_) (fun hc => ?_) <;> first | (exfalso; omega) | skip)
        | (refine PW.condN rfl (fun hc => ?_) (fun hc => ?_) <;> first | (exfalso; omega) | skip)
        | refine PW.cond rfl (fun hc => ?_) (fun hc => ?_)
        | refine PW.regQ [2] ?_
        | refine PW.sdrawG kt_36 sc_36 [2] hmix (by kernel_rfl) (fun K hK => ?_)
        | refine PW.drawG sc_36 [2] hmix (by kernel_rfl) (fun K hK => ?_)
        | refine PW.label ?_
        | omega
        | (split <;> first | contradiction | skip)
      exact ⟨(m, b), rfl, ⟨by omega, by omega, by omega, by omega⟩, by simp only; omega⟩
    · have := h4 m (by omega) (by omega)
      have hle : ¬ costV o r s e m ≤ c := by
        simp only [decide_eq_true_eq] at this; omega
      generalize costV o r s e m = y at hc1 hle
      clear h3 h4 this
      repeat' first
        | exact True.intro
        | refine runQ_step (fun K hK => ?_)
        | refine runQ_end ?_
        | refine PW.sregN kt_36 [2] (fun K hK => ?_)
        | simp only [push_cast, ↓reduceIte, Nat.reduceAdd, Nat.reduceSub, Nat.reduceMul, Nat.reduceEqDiff, Nat.reduceLT, Nat.reduceLeDiff, Int.reduceToNat, reduceCtorEq, Int.reduceEq, Int.reduceLT, Int.reduceLE, Int.reduceAdd, Int.reduceSub, Int.reduceMul, Int.reduceNeg, MV.top, kt_36, ti1, ti2, ti3, ti4, ti51, eqt51, hlt, hw1, hw2, hw3, hle]
        | refine And.intro ?_ ?_
        | (refine hK _ ?_; clear hK K)
        | (refine hK _ ?_ ?_ <;> clear hK K)
        | apply_assumption (exfalso := false) (symm := false) only [*]
        | refine calP_lent rfl rfl hc1 rfl ?_
        | refine PW.seq (fun K hK => ?_)
        | refine PW.ret ?_
        | refine PW.skip ?_
        | refine PW.exit ?_
        | refine PW.block ?_
        | refine PW.condT rfl ?_
        | refine PW.condF rfl ?_
        | (refine PW.condD rfl (fun hc => ?_) (fun hc => ?_) <;> first | (exfalso; omega) | skip)
        | (refine PW.condN rfl (fun hc => ?_) (fun hc => ?_) <;> first | (exfalso; omega) | skip)
        | refine PW.cond rfl (fun hc => ?_) (fun hc => ?_)
        | refine PW.regQ [2] ?_
        | refine PW.sdrawG kt_36 sc_36 [2] hmix (by kernel_rfl) (fun K hK => ?_)
        | refine PW.drawG sc_36 [2] hmix (by kernel_rfl) (fun K hK => ?_)
        | refine PW.label ?_
        | omega
        | (split <;> first | contradiction | skip)
      exact ⟨(a, m), rfl, ⟨by omega, by omega, by omega, by omega⟩, by simp only; omega⟩
  · have ha : a = t - 1 := by omega
    clear h3 h4 e1
    repeat' first
      | exact True.intro
      | refine runQ_step (fun K hK => ?_)
      | refine runQ_end ?_
      | refine PW.sregN kt_36 [2] (fun K hK => ?_)
      | simp only [push_cast, ↓reduceIte, Nat.reduceAdd, Nat.reduceSub, Nat.reduceMul, Nat.reduceEqDiff, Nat.reduceLT, Nat.reduceLeDiff, Int.reduceToNat, reduceCtorEq, Int.reduceEq, Int.reduceLT, Int.reduceLE, Int.reduceAdd, Int.reduceSub, Int.reduceMul, Int.reduceNeg, MV.top, kt_36, ti1, ti2, ti3, ti4, ti51, eqt51, hlt, hw1]
      | refine And.intro ?_ ?_
      | (refine hK _ ?_; clear hK K)
      | (refine hK _ ?_ ?_ <;> clear hK K)
      | apply_assumption (exfalso := false) (symm := false) only [*]
      | refine PW.seq (fun K hK => ?_)
      | refine PW.ret ?_
      | refine PW.skip ?_
      | refine PW.exit ?_
      | refine PW.block ?_
      | refine PW.condT rfl ?_
      | refine PW.condF rfl ?_
      | (refine PW.condD rfl (fun hc => ?_) (fun hc => ?_) <;> first | (exfalso; omega) | skip)
      | (refine PW.condN rfl (fun hc => ?_) (fun hc => ?_) <;> first | (exfalso; omega) | skip)
      | refine PW.cond rfl (fun hc => ?_) (fun hc => ?_)
      | refine PW.regQ [2] ?_
      | refine PW.sdrawG kt_36 sc_36 [2] hmix (by kernel_rfl) (fun K hK => ?_)
      | refine PW.drawG sc_36 [2] hmix (by kernel_rfl) (fun K hK => ?_)
      | refine PW.label ?_
      | omega
      | (split <;> first | contradiction | skip)
    all_goals rw [ha]

/-- What is read later. -/
def kt_30 : List (Nat × List Nat) := [(0, [0]), (1, [1])]
theorem costs1_spec {B : List (Option (List Ct))} {k kv : Nat} {ls : List Int} {at_ : Int} (hB : B[k]? = some (strm ls at_)) (hV : B[kv]? = some (some [.sh (.ptr k 0)])) (h0 : 0 ≤ at_) (h1 : at_ < 4611686018427387904) :
    SpecB Try.prog 30 [.ptr kv 0] B [(none, .int .i64 (pickV ls at_ [0, 1, 10, 250, 1000000000]))] (B.set k (strm ls (at_ + 1))) := by
  have e1 := Pick_spec [0, 1, 10, 250, 1000000000] hB h0 h1 (by simp) (by simp)
  refine specB_of (nt := 5) (rs := [.tmp 1]) Try.func30 rfl rfl rfl rfl (by simp) (by simp) ?_
  repeat' first
    | exact True.intro
    | refine runQ_step (fun K hK => ?_)
    | refine runQ_end ?_
    | refine PW.sregN kt_30 [] (fun K hK => ?_)
    | simp only [push_cast, ↓reduceIte, Nat.reduceAdd, Nat.reduceSub, Nat.reduceMul, Nat.reduceEqDiff, Nat.reduceLT, Nat.reduceLeDiff, Int.reduceToNat, reduceCtorEq, Int.reduceEq, Int.reduceLT, Int.reduceLE, Int.reduceAdd, Int.reduceSub, Int.reduceMul, Int.reduceNeg, MV.top, kt_30, ti1, ti2, ti3, ti4, ti5, ti22, ti23, ti25, hV]
    | refine And.intro ?_ ?_
    | (refine hK _ ?_; clear hK K)
    | (refine hK _ ?_ ?_ <;> clear hK K)
    | apply_assumption (exfalso := false) (symm := false) only [*]
    | refine calP_box rfl rfl e1 ?_
    | refine PW.seq (fun K hK => ?_)
    | refine PW.ret ?_
    | refine PW.skip ?_
    | refine PW.exit ?_
    | refine PW.block ?_
    | refine PW.condT rfl ?_
    | refine PW.condF rfl ?_
    | (refine PW.condD rfl (fun hc => ?_) (fun hc => ?_) <;> first | (exfalso; omega) | skip)
    | (refine PW.condN rfl (fun hc => ?_) (fun hc => ?_) <;> first | (exfalso; omega) | skip)
    | refine PW.cond rfl (fun hc => ?_) (fun hc => ?_)
    | refine PW.regQ [] ?_
    | refine PW.sdrawG kt_30 sc_30 [] hmix (by kernel_rfl) (fun K hK => ?_)
    | refine PW.drawG sc_30 [] hmix (by kernel_rfl) (fun K hK => ?_)
    | refine PW.label ?_
    | omega
    | (split <;> first | contradiction | skip)
end Go.Pv

