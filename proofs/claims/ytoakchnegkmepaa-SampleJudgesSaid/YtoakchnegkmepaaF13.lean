/- The law SampleJudges. -/
import Derived.Test.YtoakchnegkmepaaF12
import Derived.Test.YtoakchnegkmepaaF8
set_option linter.unusedSimpArgs false
set_option linter.unusedVariables false
set_option maxRecDepth 100000
set_option maxHeartbeats 8000000
namespace Go.Pv
open Go Go.Proofs
attribute [local irreducible] PW Dr DrS DrN DrG DrH Spec SpecB runQ opP calP gdP Still

def cellsOf : MV → List MV
  | .agg cs => cs
  | m => [m]

def wholeL (n d : Int) : List MV := if d = 0 then [.int .i64 1, .int .i64 1] else [.int .i64 (n.tdiv (gcdV n d)), .int .i64 (d.tdiv (gcdV n d))]
theorem wholeV_eq (n d : Int) : wholeV n d = .agg (wholeL n d) := by
  unfold wholeV wholeL lowV fracV
  split <;> rfl
theorem wholeL_two (n d : Int) : ∃ x y : Int, wholeL n d = [.int .i64 x, .int .i64 y] := by
  unfold wholeL
  split <;> exact ⟨_, _, rfl⟩

def inC (n : Int) : Bool := inV n 0 1000000

/-- The three fractions of Judge. -/
def judgeM (a b c : Int) : MV := .agg (wholeL a (a + b) ++ wholeL a (a + c) ++ wholeL (2 * a) (2 * a + b + c))

/-- What is read later. -/
def kt_43 : List (Nat × List Nat) := [(0, [0, 1, 2, 6]), (1, [0, 1, 2, 6, 13]), (2, [6, 7]), (3, [6, 7])]
theorem Judge_good (a b c : Int) (ha : 0 ≤ a ∧ a ≤ 1000000) (hb : 0 ≤ b ∧ b ≤ 1000000) (hc : 0 ≤ c ∧ c ≤ 1000000) : Spec Try.prog 43 [.int .i64 a, .int .i64 b, .int .i64 c] [(none, judgeM a b c), (none, .int .i64 0)] := by
  have e1 := counts_spec [a, b, c] (by simp)
  have hq : (!([a, b, c].any fun n => !inV n 0 1000000)) = true := by simp [inV]; omega
  rw [hq] at e1
  have e2 := whole_spec a (a + b) (by omega) (by omega) (by omega) (by omega)
  have e3 := whole_spec a (a + c) (by omega) (by omega) (by omega) (by omega)
  have e4 := whole_spec (2 * a) (2 * a + b + c) (by omega) (by omega) (by omega) (by omega)
  have w1 : IntKind.i64.wrap (a + b) = a + b := wrap_id (by omega) (by omega)
  have w2 : IntKind.i64.wrap (a + c) = a + c := wrap_id (by omega) (by omega)
  have w3 : IntKind.i64.wrap (2 * a) = 2 * a := wrap_id (by omega) (by omega)
  have w4 : IntKind.i64.wrap (2 * a + b) = 2 * a + b := wrap_id (by omega) (by omega)
  have w5 : IntKind.i64.wrap (2 * a + b + c) = 2 * a + b + c := wrap_id (by omega) (by omega)
  rw [wholeV_eq] at e2 e3 e4
  unfold judgeM
  obtain ⟨x1, y1, z1⟩ := wholeL_two a (a + b)
  obtain ⟨x2, y2, z2⟩ := wholeL_two a (a + c)
  obtain ⟨x3, y3, z3⟩ := wholeL_two (2 * a) (2 * a + b + c)
  rw [z1] at e2 ⊢
  rw [z2] at e3 ⊢
  rw [z3] at e4 ⊢
  refine spec_of0 (nt := 35) (rs := [.cell 6 63, .tmp 7]) Try.func43 rfl rfl rfl rfl (by simp) (by simp [np, npL]) (by simp [np]) ?_
  repeat' first
    | exact True.intro
    | refine runQ_step (fun K hK => ?_)
    | refine runQ_end ?_
    | refine PW.sregN kt_43 [] (fun K hK => ?_)
    | simp only [push_cast, ↓reduceIte, Nat.reduceAdd, Nat.reduceSub, Nat.reduceMul, Nat.reduceEqDiff, Nat.reduceLT, Nat.reduceLeDiff, Int.reduceToNat, reduceCtorEq, Int.reduceEq, Int.reduceLT, Int.reduceLE, Int.reduceAdd, Int.reduceSub, Int.reduceMul, Int.reduceNeg, MV.top, kt_43, ti1, ti2, ti3, ti4, ti22, ti30, ti32, ti63, eqt30, eqt63, w1, w2, w3, w4, w5]
    | refine And.intro ?_ ?_
    | (refine hK _ ?_; clear hK K)
    | (refine hK _ ?_ ?_ <;> clear hK K)
    | apply_assumption (exfalso := false) (symm := false) only [*]
    | refine calP_lent rfl rfl e1 rfl ?_
    | refine calP_lent rfl rfl e2 rfl ?_
    | refine calP_lent rfl rfl e3 rfl ?_
    | refine calP_lent rfl rfl e4 rfl ?_
    | refine PW.seq (fun K hK => ?_)
    | refine PW.ret ?_
    | refine PW.skip ?_
    | refine PW.exit ?_
    | refine PW.block ?_
    | refine PW.condT rfl ?_
    | refine PW.condF rfl ?_
    | (refine PW.condD rfl (fun hc => ?_) (fun hc => ?_) <;> first | (exfalso; omega) | skip)
    | (refine PW.condN rfl (fun hc => ?_) (fun hc => ?_) <;> first | (exfalso; omega) | skip)
    | refine PW.cond rfl (fun hc => ?_) (fun hc => ?_)
    | refine PW.regQ [] ?_
    | refine PW.sdrawG kt_43 sc_43 [] hmix (by kernel_rfl) (fun K hK => ?_)
    | refine PW.drawG sc_43 [] hmix (by kernel_rfl) (fun K hK => ?_)
    | refine PW.label ?_
    | omega
    | (split <;> first | contradiction | skip)

theorem Judge_bad (a b c : Int) (h : inV c 0 1000000 = false) : Spec Try.prog 43 [.int .i64 a, .int .i64 b, .int .i64 c] [(none, .agg [.int .i64 0, .int .i64 0, .int .i64 0, .int .i64 0, .int .i64 0, .int .i64 0]), (none, .int .i64 1)] := by
  have e1 := counts_spec [a, b, c] (by simp)
  have hq : (!([a, b, c].any fun n => !inV n 0 1000000)) = false := by simp [h]
  rw [hq] at e1
  refine spec_of0 (nt := 35) (rs := [.cell 6 63, .tmp 7]) Try.func43 rfl rfl rfl rfl (by simp) (by simp [np, npL]) (by simp [np]) ?_
  repeat' first
    | exact True.intro
    | refine runQ_step (fun K hK => ?_)
    | refine runQ_end ?_
    | refine PW.sregN kt_43 [] (fun K hK => ?_)
    | simp only [push_cast, ↓reduceIte, Nat.reduceAdd, Nat.reduceSub, Nat.reduceMul, Nat.reduceEqDiff, Nat.reduceLT, Nat.reduceLeDiff, Int.reduceToNat, reduceCtorEq, Int.reduceEq, Int.reduceLT, Int.reduceLE, Int.reduceAdd, Int.reduceSub, Int.reduceMul, Int.reduceNeg, MV.top, kt_43, ti1, ti2, ti3, ti4, ti22, ti30, ti32, ti63, eqt30, eqt63]
    | refine And.intro ?_ ?_
    | (refine hK _ ?_; clear hK K)
    | (refine hK _ ?_ ?_ <;> clear hK K)
    | apply_assumption (exfalso := false) (symm := false) only [*]
    | refine calP_lent rfl rfl e1 rfl ?_
    | refine PW.seq (fun K hK => ?_)
    | refine PW.ret ?_
    | refine PW.skip ?_
    | refine PW.exit ?_
    | refine PW.block ?_
    | refine PW.condT rfl ?_
    | refine PW.condF rfl ?_
    | (refine PW.condD rfl (fun hc => ?_) (fun hc => ?_) <;> first | (exfalso; omega) | skip)
    | (refine PW.condN rfl (fun hc => ?_) (fun hc => ?_) <;> first | (exfalso; omega) | skip)
    | refine PW.cond rfl (fun hc => ?_) (fun hc => ?_)
    | refine PW.regQ [] ?_
    | refine PW.sdrawG kt_43 sc_43 [] hmix (by kernel_rfl) (fun K hK => ?_)
    | refine PW.drawG sc_43 [] hmix (by kernel_rfl) (fun K hK => ?_)
    | refine PW.label ?_
    | omega
    | (split <;> first | contradiction | skip)

/-- What is read later. -/
def kt_45 : List (Nat × List Nat) := [(0, [0, 1, 2, 6]), (1, [6])]
theorem JudgeOf_spec (a b c : Int) (ha : 0 ≤ a ∧ a ≤ 1000000) (hb : 0 ≤ b ∧ b ≤ 1000000) (hc : 0 ≤ c ∧ c ≤ 1000000) : Spec Try.prog 45 [.int .i64 a, .int .i64 b, .int .i64 c] [(none, judgeM a b c)] := by
  have e2 := orOne_spec a (a + b) (by omega) (by omega) (by omega) (by omega)
  have e3 := orOne_spec a (a + c) (by omega) (by omega) (by omega) (by omega)
  have e4 := orOne_spec (2 * a) (2 * a + b + c) (by omega) (by omega) (by omega) (by omega)
  have w1 : IntKind.i64.wrap (a + b) = a + b := wrap_id (by omega) (by omega)
  have w2 : IntKind.i64.wrap (a + c) = a + c := wrap_id (by omega) (by omega)
  have w3 : IntKind.i64.wrap (2 * a) = 2 * a := wrap_id (by omega) (by omega)
  have w4 : IntKind.i64.wrap (2 * a + b) = 2 * a + b := wrap_id (by omega) (by omega)
  have w5 : IntKind.i64.wrap (2 * a + b + c) = 2 * a + b + c := wrap_id (by omega) (by omega)
  rw [wholeV_eq] at e2 e3 e4
  unfold judgeM
  obtain ⟨x1, y1, z1⟩ := wholeL_two a (a + b)
  obtain ⟨x2, y2, z2⟩ := wholeL_two a (a + c)
  obtain ⟨x3, y3, z3⟩ := wholeL_two (2 * a) (2 * a + b + c)
  rw [z1] at e2 ⊢
  rw [z2] at e3 ⊢
  rw [z3] at e4 ⊢
  refine spec_of0 (nt := 27) (rs := [.cell 6 63]) Try.func45 rfl rfl rfl rfl (by simp) (by simp [np, npL]) (by simp [np]) ?_
  repeat' first
    | exact True.intro
    | refine runQ_step (fun K hK => ?_)
    | refine runQ_end ?_
    | refine PW.sregN kt_45 [] (fun K hK => ?_)
    | simp only [push_cast, ↓reduceIte, Nat.reduceAdd, Nat.reduceSub, Nat.reduceMul, Nat.reduceEqDiff, Nat.reduceLT, Nat.reduceLeDiff, Int.reduceToNat, reduceCtorEq, Int.reduceEq, Int.reduceLT, Int.reduceLE, Int.reduceAdd, Int.reduceSub, Int.reduceMul, Int.reduceNeg, MV.top, kt_45, ti1, ti2, ti3, ti4, ti30, ti63, eqt30, eqt63, w1, w2, w3, w4, w5]
    | refine And.intro ?_ ?_
    | (refine hK _ ?_; clear hK K)
    | (refine hK _ ?_ ?_ <;> clear hK K)
    | apply_assumption (exfalso := false) (symm := false) only [*]
    | refine calP_lent rfl rfl e2 rfl ?_
    | refine calP_lent rfl rfl e3 rfl ?_
    | refine calP_lent rfl rfl e4 rfl ?_
    | refine PW.seq (fun K hK => ?_)
    | refine PW.ret ?_
    | refine PW.skip ?_
    | refine PW.exit ?_
    | refine PW.block ?_
    | refine PW.condT rfl ?_
    | refine PW.condF rfl ?_
    | (refine PW.condD rfl (fun hc => ?_) (fun hc => ?_) <;> first | (exfalso; omega) | skip)
    | (refine PW.condN rfl (fun hc => ?_) (fun hc => ?_) <;> first | (exfalso; omega) | skip)
    | refine PW.cond rfl (fun hc => ?_) (fun hc => ?_)
    | refine PW.regQ [] ?_
    | refine PW.sdrawG kt_45 sc_45 [] hmix (by kernel_rfl) (fun K hK => ?_)
    | refine PW.drawG sc_45 [] hmix (by kernel_rfl) (fun K hK => ?_)
    | refine PW.label ?_
    | omega
    | (split <;> first | contradiction | skip)

def kapT (a b c d : Int) : Int := a + b + c + d
def kapE (a b c d : Int) : Int := (a + b) * (a + c) + (c + d) * (b + d)

theorem kap_bd {a b c d : Int} (ha : 0 ≤ a ∧ a ≤ 1000000) (hb : 0 ≤ b ∧ b ≤ 1000000) (hc : 0 ≤ c ∧ c ≤ 1000000) (hd : 0 ≤ d ∧ d ≤ 1000000) :
    (0 ≤ (a + b) * (a + c) ∧ (a + b) * (a + c) ≤ 2000000 * 2000000) ∧ (0 ≤ (c + d) * (b + d) ∧ (c + d) * (b + d) ≤ 2000000 * 2000000) ∧ (0 ≤ (a + d) * (a + b + c + d) ∧ (a + d) * (a + b + c + d) ≤ 2000000 * 4000000) ∧ ((a + b + c + d) * (a + b + c + d) ≤ 4000000 * 4000000) ∧
    (a + b) * (a + c) + (c + d) * (b + d) ≤ (a + b + c + d) * (a + b + c + d) := by
  refine ⟨mul_bd (by omega) (by omega) (by omega) (by omega), mul_bd (by omega) (by omega) (by omega) (by omega), mul_bd (by omega) (by omega) (by omega) (by omega), (mul_bd (by omega) (by omega) (by omega) (by omega)).2, ?_⟩
  have h1 : (a + b) * (a + c) ≤ (a + b) * (a + b + c + d) := Int.mul_le_mul_of_nonneg_left (by omega) (by omega)
  have h2 : (c + d) * (b + d) ≤ (c + d) * (a + b + c + d) := Int.mul_le_mul_of_nonneg_left (by omega) (by omega)
  have h3 : (a + b) * (a + b + c + d) + (c + d) * (a + b + c + d) = (a + b + c + d) * (a + b + c + d) := by rw [← Int.add_mul]; congr 1; omega
  omega

/-- What is read later. -/
def kt_44 : List (Nat × List Nat) := [(0, [0, 1, 2, 3, 8]), (1, [0, 1, 2, 3, 8, 18]), (2, [8, 9]), (3, [0, 1, 2, 3, 8, 10]), (4, [0, 1, 2, 3, 8, 10, 28]), (5, [8, 9]), (6, [0, 3, 8, 10, 11]), (7, [8, 9])]
theorem Kappa_good (a b c d : Int) (ha : 0 ≤ a ∧ a ≤ 1000000) (hb : 0 ≤ b ∧ b ≤ 1000000) (hc : 0 ≤ c ∧ c ≤ 1000000) (hd : 0 ≤ d ∧ d ≤ 1000000) (ht : a + b + c + d ≠ 0) :
    Spec Try.prog 44 [.int .i64 a, .int .i64 b, .int .i64 c, .int .i64 d] [(none, .agg (wholeL ((a + d) * (a + b + c + d) - ((a + b) * (a + c) + (c + d) * (b + d))) ((a + b + c + d) * (a + b + c + d) - ((a + b) * (a + c) + (c + d) * (b + d))))), (none, .int .i64 0)] := by
  have e1 := counts_spec [a, b, c, d] (by simp)
  have hq : (!([a, b, c, d].any fun n => !inV n 0 1000000)) = true := by simp [inV]; omega
  rw [hq] at e1
  clear hq
  obtain ⟨k1, k2, k3, k4, k5⟩ := kap_bd ha hb hc hd
  have w1 : IntKind.i64.wrap (a + b) = a + b := wrap_id (by omega) (by omega)
  have w2 : IntKind.i64.wrap (a + b + c) = a + b + c := wrap_id (by omega) (by omega)
  have w3 : IntKind.i64.wrap (a + b + c + d) = a + b + c + d := wrap_id (by omega) (by omega)
  have w4 : IntKind.i64.wrap (a + c) = a + c := wrap_id (by omega) (by omega)
  have w5 : IntKind.i64.wrap (c + d) = c + d := wrap_id (by omega) (by omega)
  have w6 : IntKind.i64.wrap (b + d) = b + d := wrap_id (by omega) (by omega)
  have w7 : IntKind.i64.wrap (a + d) = a + d := wrap_id (by omega) (by omega)
  have e2 := fun n dd h0 h1 h2 h3 => whole_spec n dd h0 h1 h2 h3
  generalize htt : a + b + c + d = t at *
  generalize hp1 : (a + b) * (a + c) = p1 at *
  generalize hp2 : (c + d) * (b + d) = p2 at *
  generalize hp3 : (a + d) * t = p3 at *
  generalize hp4 : t * t = p4 at *
  have w8 : IntKind.i64.wrap p1 = p1 := wrap_id (by omega) (by omega)
  have w9 : IntKind.i64.wrap p2 = p2 := wrap_id (by omega) (by omega)
  have w10 : IntKind.i64.wrap (p1 + p2) = p1 + p2 := wrap_id (by omega) (by omega)
  have w11 : IntKind.i64.wrap p3 = p3 := wrap_id (by omega) (by omega)
  have w12 : IntKind.i64.wrap p4 = p4 := wrap_id (by omega) (by omega)
  have w13 : IntKind.i64.wrap (p3 - (p1 + p2)) = p3 - (p1 + p2) := wrap_id (by omega) (by omega)
  have w14 : IntKind.i64.wrap (p4 - (p1 + p2)) = p4 - (p1 + p2) := wrap_id (by omega) (by omega)
  have e3 := e2 (p3 - (p1 + p2)) (p4 - (p1 + p2)) (by omega) (by omega) (by omega) (by omega)
  rw [wholeV_eq] at e3
  obtain ⟨x1, y1, z1⟩ := wholeL_two (p3 - (p1 + p2)) (p4 - (p1 + p2))
  rw [z1] at e3 ⊢
  clear e2 z1 k1 k2 k3 k4 k5
  refine spec_of0 (nt := 58) (rs := [.cell 8 30, .tmp 9]) Try.func44 rfl rfl rfl rfl (by simp) (by simp [np, npL]) (by simp [np]) ?_
  repeat' first
    | exact True.intro
    | refine runQ_step (fun K hK => ?_)
    | refine runQ_end ?_
    | refine PW.sregN kt_44 [] (fun K hK => ?_)
    | simp only [push_cast, ↓reduceIte, Nat.reduceAdd, Nat.reduceSub, Nat.reduceMul, Nat.reduceEqDiff, Nat.reduceLT, Nat.reduceLeDiff, Int.reduceToNat, reduceCtorEq, Int.reduceEq, Int.reduceLT, Int.reduceLE, Int.reduceAdd, Int.reduceSub, Int.reduceMul, Int.reduceNeg, MV.top, kt_44, ti1, ti2, ti3, ti4, ti22, ti30, ti32, eqt30, ht, htt, hp1, hp2, hp3, hp4, w1, w2, w3, w4, w5, w6, w7, w8, w9, w10, w11, w12, w13, w14]
    | refine And.intro ?_ ?_
    | (refine hK _ ?_; clear hK K)
    | (refine hK _ ?_ ?_ <;> clear hK K)
    | apply_assumption (exfalso := false) (symm := false) only [*]
    | refine calP_lent rfl rfl e1 rfl ?_
    | refine calP_lent rfl rfl e3 rfl ?_
    | refine PW.seq (fun K hK => ?_)
    | refine PW.ret ?_
    | refine PW.skip ?_
    | refine PW.exit ?_
    | refine PW.block ?_
    | refine PW.condT rfl ?_
    | refine PW.condF rfl ?_
    | (refine PW.condD rfl (fun hc => ?_) (fun hc => ?_) <;> first | (exfalso; omega) | skip)
    | (refine PW.condN rfl (fun hc => ?_) (fun hc => ?_) <;> first | (exfalso; omega) | skip)
    | refine PW.cond rfl (fun hc => ?_) (fun hc => ?_)
    | refine PW.regQ [] ?_
    | refine PW.sdrawG kt_44 sc_44 [] hmix (by kernel_rfl) (fun K hK => ?_)
    | refine PW.drawG sc_44 [] hmix (by kernel_rfl) (fun K hK => ?_)
    | refine PW.label ?_
    | omega
    | (split <;> first | contradiction | skip)

theorem Kappa_bad (a b c d : Int) (h : inV c 0 1000000 = false) : Spec Try.prog 44 [.int .i64 a, .int .i64 b, .int .i64 c, .int .i64 d] [(none, .agg [.int .i64 0, .int .i64 0]), (none, .int .i64 1)] := by
  have e1 := counts_spec [a, b, c, d] (by simp)
  have hq : (!([a, b, c, d].any fun n => !inV n 0 1000000)) = false := by simp [h]
  rw [hq] at e1
  refine spec_of0 (nt := 58) (rs := [.cell 8 30, .tmp 9]) Try.func44 rfl rfl rfl rfl (by simp) (by simp [np, npL]) (by simp [np]) ?_
  repeat' first
    | exact True.intro
    | refine runQ_step (fun K hK => ?_)
    | refine runQ_end ?_
    | refine PW.sregN kt_44 [] (fun K hK => ?_)
    | simp only [push_cast, ↓reduceIte, Nat.reduceAdd, Nat.reduceSub, Nat.reduceMul, Nat.reduceEqDiff, Nat.reduceLT, Nat.reduceLeDiff, Int.reduceToNat, reduceCtorEq, Int.reduceEq, Int.reduceLT, Int.reduceLE, Int.reduceAdd, Int.reduceSub, Int.reduceMul, Int.reduceNeg, MV.top, kt_44, ti1, ti2, ti3, ti4, ti22, ti30, ti32, eqt30]
    | refine And.intro ?_ ?_
    | (refine hK _ ?_; clear hK K)
    | (refine hK _ ?_ ?_ <;> clear hK K)
    | apply_assumption (exfalso := false) (symm := false) only [*]
    | refine calP_lent rfl rfl e1 rfl ?_
    | refine PW.seq (fun K hK => ?_)
    | refine PW.ret ?_
    | refine PW.skip ?_
    | refine PW.exit ?_
    | refine PW.block ?_
    | refine PW.condT rfl ?_
    | refine PW.condF rfl ?_
    | (refine PW.condD rfl (fun hc => ?_) (fun hc => ?_) <;> first | (exfalso; omega) | skip)
    | (refine PW.condN rfl (fun hc => ?_) (fun hc => ?_) <;> first | (exfalso; omega) | skip)
    | refine PW.cond rfl (fun hc => ?_) (fun hc => ?_)
    | refine PW.regQ [] ?_
    | refine PW.sdrawG kt_44 sc_44 [] hmix (by kernel_rfl) (fun K hK => ?_)
    | refine PW.drawG sc_44 [] hmix (by kernel_rfl) (fun K hK => ?_)
    | refine PW.label ?_
    | omega
    | (split <;> first | contradiction | skip)

theorem Kappa_none : Spec Try.prog 44 [.int .i64 0, .int .i64 0, .int .i64 0, .int .i64 0] [(none, .agg [.int .i64 0, .int .i64 0]), (none, .int .i64 8)] := by
  have e1 := counts_spec [0, 0, 0, 0] (by simp)
  have hq : (!([(0 : Int), 0, 0, 0].any fun n => !inV n 0 1000000)) = true := by decide
  rw [hq] at e1
  have w0 : IntKind.i64.wrap 0 = 0 := by decide
  refine spec_of0 (nt := 58) (rs := [.cell 8 30, .tmp 9]) Try.func44 rfl rfl rfl rfl (by simp) (by simp [np, npL]) (by simp [np]) ?_
  repeat' first
    | exact True.intro
    | refine runQ_step (fun K hK => ?_)
    | refine runQ_end ?_
    | refine PW.sregN kt_44 [] (fun K hK => ?_)
    | simp only [push_cast, ↓reduceIte, Nat.reduceAdd, Nat.reduceSub, Nat.reduceMul, Nat.reduceEqDiff, Nat.reduceLT, Nat.reduceLeDiff, Int.reduceToNat, reduceCtorEq, Int.reduceEq, Int.reduceLT, Int.reduceLE, Int.reduceAdd, Int.reduceSub, Int.reduceMul, Int.reduceNeg, MV.top, kt_44, ti1, ti2, ti3, ti4, ti22, ti30, ti32, eqt30, w0]
    | refine And.intro ?_ ?_
    | (refine hK _ ?_; clear hK K)
    | (refine hK _ ?_ ?_ <;> clear hK K)
    | apply_assumption (exfalso := false) (symm := false) only [*]
    | refine calP_lent rfl rfl e1 rfl ?_
    | refine PW.seq (fun K hK => ?_)
    | refine PW.ret ?_
    | refine PW.skip ?_
    | refine PW.exit ?_
    | refine PW.block ?_
    | refine PW.condT rfl ?_
    | refine PW.condF rfl ?_
    | (refine PW.condD rfl (fun hc => ?_) (fun hc => ?_) <;> first | (exfalso; omega) | skip)
    | (refine PW.condN rfl (fun hc => ?_) (fun hc => ?_) <;> first | (exfalso; omega) | skip)
    | refine PW.cond rfl (fun hc => ?_) (fun hc => ?_)
    | refine PW.regQ [] ?_
    | refine PW.sdrawG kt_44 sc_44 [] hmix (by kernel_rfl) (fun K hK => ?_)
    | refine PW.drawG sc_44 [] hmix (by kernel_rfl) (fun K hK => ?_)
    | refine PW.label ?_
    | omega
    | (split <;> first | contradiction | skip)

/-- What is read later. -/
def kt_46 : List (Nat × List Nat) := [(0, [0, 1, 2, 3, 8]), (1, [0, 1, 2, 3, 8, 9]), (2, [0, 3, 8, 9, 10]), (3, [8])]
theorem KappaOf_spec (a b c d : Int) (ha : 0 ≤ a ∧ a ≤ 1000000) (hb : 0 ≤ b ∧ b ≤ 1000000) (hc : 0 ≤ c ∧ c ≤ 1000000) (hd : 0 ≤ d ∧ d ≤ 1000000) (ht : a + b + c + d ≠ 0) :
    Spec Try.prog 46 [.int .i64 a, .int .i64 b, .int .i64 c, .int .i64 d] [(none, .agg (wholeL ((a + d) * (a + b + c + d) - ((a + b) * (a + c) + (c + d) * (b + d))) ((a + b + c + d) * (a + b + c + d) - ((a + b) * (a + c) + (c + d) * (b + d)))))] := by
  obtain ⟨k1, k2, k3, k4, k5⟩ := kap_bd ha hb hc hd
  have w1 : IntKind.i64.wrap (a + b) = a + b := wrap_id (by omega) (by omega)
  have w2 : IntKind.i64.wrap (a + b + c) = a + b + c := wrap_id (by omega) (by omega)
  have w3 : IntKind.i64.wrap (a + b + c + d) = a + b + c + d := wrap_id (by omega) (by omega)
  have w4 : IntKind.i64.wrap (a + c) = a + c := wrap_id (by omega) (by omega)
  have w5 : IntKind.i64.wrap (c + d) = c + d := wrap_id (by omega) (by omega)
  have w6 : IntKind.i64.wrap (b + d) = b + d := wrap_id (by omega) (by omega)
  have w7 : IntKind.i64.wrap (a + d) = a + d := wrap_id (by omega) (by omega)
  have e2 := fun n dd h0 h1 h2 h3 => orOne_spec n dd h0 h1 h2 h3
  generalize htt : a + b + c + d = t at *
  generalize hp1 : (a + b) * (a + c) = p1 at *
  generalize hp2 : (c + d) * (b + d) = p2 at *
  generalize hp3 : (a + d) * t = p3 at *
  generalize hp4 : t * t = p4 at *
  have w8 : IntKind.i64.wrap p1 = p1 := wrap_id (by omega) (by omega)
  have w9 : IntKind.i64.wrap p2 = p2 := wrap_id (by omega) (by omega)
  have w10 : IntKind.i64.wrap (p1 + p2) = p1 + p2 := wrap_id (by omega) (by omega)
  have w11 : IntKind.i64.wrap p3 = p3 := wrap_id (by omega) (by omega)
  have w12 : IntKind.i64.wrap p4 = p4 := wrap_id (by omega) (by omega)
  have w13 : IntKind.i64.wrap (p3 - (p1 + p2)) = p3 - (p1 + p2) := wrap_id (by omega) (by omega)
  have w14 : IntKind.i64.wrap (p4 - (p1 + p2)) = p4 - (p1 + p2) := wrap_id (by omega) (by omega)
  have e3 := e2 (p3 - (p1 + p2)) (p4 - (p1 + p2)) (by omega) (by omega) (by omega) (by omega)
  rw [wholeV_eq] at e3
  obtain ⟨x1, y1, z1⟩ := wholeL_two (p3 - (p1 + p2)) (p4 - (p1 + p2))
  rw [z1] at e3 ⊢
  clear e2 z1 k1 k2 k3 k4 k5
  refine spec_of0 (nt := 46) (rs := [.cell 8 30]) Try.func46 rfl rfl rfl rfl (by simp) (by simp [np, npL]) (by simp [np]) ?_
  repeat' first
    | exact True.intro
    | refine runQ_step (fun K hK => ?_)
    | refine runQ_end ?_
    | refine PW.sregN kt_46 [] (fun K hK => ?_)
    | simp only [push_cast, ↓reduceIte, Nat.reduceAdd, Nat.reduceSub, Nat.reduceMul, Nat.reduceEqDiff, Nat.reduceLT, Nat.reduceLeDiff, Int.reduceToNat, reduceCtorEq, Int.reduceEq, Int.reduceLT, Int.reduceLE, Int.reduceAdd, Int.reduceSub, Int.reduceMul, Int.reduceNeg, MV.top, kt_46, ti1, ti3, ti30, eqt30, htt, hp1, hp2, hp3, hp4, w1, w2, w3, w4, w5, w6, w7, w8, w9, w10, w11, w12, w13, w14]
    | refine And.intro ?_ ?_
    | (refine hK _ ?_; clear hK K)
    | (refine hK _ ?_ ?_ <;> clear hK K)
    | apply_assumption (exfalso := false) (symm := false) only [*]
    | refine calP_lent rfl rfl e3 rfl ?_
    | refine PW.seq (fun K hK => ?_)
    | refine PW.ret ?_
    | refine PW.skip ?_
    | refine PW.exit ?_
    | refine PW.block ?_
    | refine PW.condT rfl ?_
    | refine PW.condF rfl ?_
    | (refine PW.condD rfl (fun hc => ?_) (fun hc => ?_) <;> first | (exfalso; omega) | skip)
    | (refine PW.condN rfl (fun hc => ?_) (fun hc => ?_) <;> first | (exfalso; omega) | skip)
    | refine PW.cond rfl (fun hc => ?_) (fun hc => ?_)
    | refine PW.regQ [] ?_
    | refine PW.sdrawG kt_46 sc_46 [] hmix (by kernel_rfl) (fun K hK => ?_)
    | refine PW.drawG sc_46 [] hmix (by kernel_rfl) (fun K hK => ?_)
    | refine PW.label ?_
    | omega
    | (split <;> first | contradiction | skip)

/-- Plans for open orders. -/
def sc_41 : List (Nat × Sc) := [(1, .take 0 (.take 1 (.one 2 [0] (.one 3 [0] (.one 4 [] (.one 5 [] (.fin)))))))]
/-- What is read later. -/
def kt_41 : List (Nat × List Nat) := [(0, [0]), (1, [1])]
def judN (ls : List Int) (at_ : Int) : Int := pickV ls (at_ + 1) [0, 0, 1, 2, 5, 8, 20, 1000000, rangeV ls at_ 0 50]
theorem judN_bd (ls : List Int) (at_ : Int) : 0 ≤ judN ls at_ ∧ judN ls at_ ≤ 1000000 := by
  have h := pickV_mem (ls := ls) (at_ := at_ + 1) (xs := [0, 0, 1, 2, 5, 8, 20, 1000000, rangeV ls at_ 0 50]) (by simp) (by simp)
  have hr := rangeV_bd (ls := ls) (at_ := at_) (lo := 0) (hi := 50) (by omega) (by omega) (by omega)
  simp only [List.mem_cons, List.not_mem_nil, or_false] at h
  unfold judN
  rcases h with h | h | h | h | h | h | h | h | h <;> rw [h] <;> omega
theorem judN_spec {B : List (Option (List Ct))} {k kv : Nat} {ls : List Int} {at_ : Int} (hB : B[k]? = some (strm ls at_)) (hV : B[kv]? = some (some [.sh (.ptr k 0)])) (hkv : k ≠ kv) (h0 : 0 ≤ at_) (h1 : at_ < 4611686018427387900) :
    SpecB Try.prog 41 [.ptr kv 0] B [(none, .int .i64 (judN ls at_))] (B.set k (strm ls (at_ + 1 + 1))) := by
  have e1 := Range_spec 0 50 hB h0 (by omega) (by omega) (by omega) (by omega)
  have hk : k < B.length := (List.getElem?_eq_some_iff.1 hB).1
  have hB2 : (B.set k (strm ls (at_ + 1)))[k]? = some (strm ls (at_ + 1)) := by rw [List.getElem?_set_self hk]
  have e2 := Pick_spec [0, 0, 1, 2, 5, 8, 20, 1000000, rangeV ls at_ 0 50] hB2 (by omega) (by omega) (by simp) (by simp)
  have hV2 : (B.set k (strm ls (at_ + 1)))[kv]? = some (some [.sh (.ptr k 0)]) := by rw [List.getElem?_set_ne hkv]; exact hV
  unfold judN
  refine specB_of (nt := 7) (rs := [.tmp 1]) Try.func41 rfl rfl rfl rfl (by simp) (by simp) ?_
  repeat' first
    | exact True.intro
    | refine runQ_step (fun K hK => ?_)
    | refine runQ_end ?_
    | refine PW.sregN kt_41 [] (fun K hK => ?_)
    | simp only [push_cast, ↓reduceIte, Nat.reduceAdd, Nat.reduceSub, Nat.reduceMul, Nat.reduceEqDiff, Nat.reduceLT, Nat.reduceLeDiff, Int.reduceToNat, reduceCtorEq, Int.reduceEq, Int.reduceLT, Int.reduceLE, Int.reduceAdd, Int.reduceSub, Int.reduceMul, Int.reduceNeg, MV.top, kt_41, ti1, ti2, ti3, ti4, ti5, ti6, ti7, ti8, ti9, ti22, ti23, ti25, eqt7, eqt8, hV, hV2, List.set_set]
    | refine And.intro ?_ ?_
    | (refine hK _ ?_; clear hK K)
    | (refine hK _ ?_ ?_ <;> clear hK K)
    | apply_assumption (exfalso := false) (symm := false) only [*]
    | refine DrG.take rfl rfl rfl (by kernel_rfl) rfl (fun K hK => ?_)
    | refine DrG.one rfl rfl (by kernel_rfl) (by kernel_rfl) (by kernel_rfl) (fun K hK => ?_)
    | refine DrG.fin rfl (by kernel_rfl) (by kernel_rfl) ?_
    | refine Still.ofR rfl rfl rfl (by kernel_rfl) rfl (fun K hK => ?_)
    | refine calP_box rfl rfl e1 ?_
    | refine calP_box rfl rfl e2 ?_
    | refine PW.seq (fun K hK => ?_)
    | refine PW.ret ?_
    | refine PW.skip ?_
    | refine PW.exit ?_
    | refine PW.block ?_
    | refine PW.condT rfl ?_
    | refine PW.condF rfl ?_
    | (refine PW.condD rfl (fun hc => ?_) (fun hc => ?_) <;> first | (exfalso; omega) | skip)
    | (refine PW.condN rfl (fun hc => ?_) (fun hc => ?_) <;> first | (exfalso; omega) | skip)
    | refine PW.cond rfl (fun hc => ?_) (fun hc => ?_)
    | refine PW.regQ [] ?_
    | refine PW.sdrawG kt_41 sc_41 [] hmix (by kernel_rfl) (fun K hK => ?_)
    | refine PW.drawG sc_41 [] hmix (by kernel_rfl) (fun K hK => ?_)
    | refine PW.label ?_
    | omega
    | (split <;> first | contradiction | skip)
end Go.Pv

