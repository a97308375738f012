/- The law SampleJudges. -/
import Derived.Test.YtoakchnegkmepaaF13
import Derived.Test.YtoakchnegkmepaaF15
set_option linter.unusedSimpArgs false
set_option linter.unusedVariables false
set_option maxRecDepth 100000
set_option maxHeartbeats 8000000
namespace Go.Pv
open Go Go.Proofs
attribute [local irreducible] PW Dr DrS DrN DrG DrH Spec SpecB runQ opP calP gdP Still

/-- Plans for open orders. -/
def sc_8 : List (Nat × Sc) := [(10, .take 0 (.take 1 (.take 2 (.take 3 (.take 4 (.take 5 (.take 6 (.one 7 [3, 1, 0] (.take 8 (.take 9 (.fin))))))))))), (14, .take 0 (.take 1 (.take 2 (.take 3 (.take 4 (.take 5 (.take 6 (.take 7 (.one 8 [3, 1, 0] (.take 9 (.take 10 (.take 11 (.one 12 [10, 9, 3, 1, 0] (.take 13 (.one 14 [] (.fin))))))))))))))))]
/-- What is read later. -/
def kt_8 : List (Nat × List Nat) := [(0, [0]), (1, [3]), (2, [3, 4]), (3, [3, 5, 6, 7, 8]), (4, [3, 5, 6, 7, 8, 26]), (5, [5, 6, 7, 8]), (6, [5, 6, 7, 8, 9, 10]), (7, [5, 6, 7, 8, 9, 10, 11, 12]), (8, [5, 6, 7, 8, 9, 10, 11, 12, 50]), (9, [2]), (10, [5, 6, 7, 8, 11, 12, 79]), (11, [2]), (12, [5, 6, 7, 8, 11, 12, 87]), (13, [2]), (14, [2])]
theorem SampleJudges_spec (ls : List Int) : Spec Try.prog 8 [ints ls] [(none, .bool true)] := by
  have hnp := np_ints ls
  unfold ints at *
  refine spec_of0 (nt := 112) (rs := [.tmp 2]) Try.func8 rfl rfl rfl rfl (by simp) (by simp [np]) (by intro x hx; simp only [List.mem_cons, List.not_mem_nil, or_false] at hx; subst hx; exact hnp) ?_
  clear hnp
  refine PW.sregN kt_8 [] (fun K hK => ?_)
  repeat' first
    | exact True.intro
    | refine runQ_step (fun K hK => ?_)
    | refine runQ_end ?_
    | simp only [push_cast, ↓reduceIte, Nat.reduceAdd, Nat.reduceSub, Nat.reduceMul, Nat.reduceEqDiff, Nat.reduceLT, Nat.reduceLeDiff, Int.reduceToNat, reduceCtorEq, Int.reduceEq, Int.reduceLT, Int.reduceLE, Int.reduceAdd, Int.reduceSub, Int.reduceMul, Int.reduceNeg, MV.top, kt_8, ti1, ti2, ti3, ti4, ti22, ti23, ti25, ti30, ti32, ti41, ti49, ti63, eqt30, eqt63, strm]
    | refine And.intro ?_ ?_
    | (refine hK _ ?_; clear hK K)
    | (refine hK _ ?_ ?_ <;> clear hK K)
    | apply_assumption (exfalso := false) (symm := false) only [*]
    | refine runQ_gC rfl (fun K hK => ?_)
    | refine runQ_gS rfl rfl ?_
    | refine runQ_gU rfl rfl ?_
    | (refine runQ_gT rfl (fun hc K hK => ?_) (fun hc => ?_) <;> first | (exfalso; omega) | skip)
    | (refine runQ_gF rfl (fun hc K hK => ?_) (fun hc => ?_) <;> first | (exfalso; omega) | skip)
    | refine runQ_guard rfl (fun hc K hK => ?_) (fun hc => ?_)
    | refine DrG.take rfl rfl rfl (by kernel_rfl) rfl (fun K hK => ?_)
    | refine DrG.one rfl rfl (by kernel_rfl) (by kernel_rfl) (by kernel_rfl) (fun K hK => ?_)
    | refine DrG.fin rfl (by kernel_rfl) (by kernel_rfl) ?_
    | refine Still.ofR rfl rfl rfl (by kernel_rfl) rfl (fun K hK => ?_)
    | refine DrG.takeW rfl rfl rfl rfl rfl (by kernel_rfl) rfl (fun K hK => ?_)
    | refine DrG.skipW rfl rfl rfl rfl rfl (by kernel_rfl) rfl ?_
    | refine DrG.oneW rfl rfl rfl rfl (by kernel_rfl) (by kernel_rfl) (by kernel_rfl) (fun K hK => ?_)
    | refine DrG.oneS rfl rfl rfl rfl rfl (by kernel_rfl) (by kernel_rfl) (by kernel_rfl) (by simp only [dOk]; omega) (fun K hK => ?_)
    | refine DrG.oneU rfl rfl rfl rfl (by kernel_rfl) (by kernel_rfl) (by kernel_rfl) (by simp only [dOk]; omega) (fun K hK => ?_)
    | refine Still.ofGW rfl rfl rfl rfl (by kernel_rfl) rfl (fun K hK => ?_)
    | refine Still.ofGS rfl rfl rfl rfl (by kernel_rfl) rfl
    | refine PW.ret ?_
    | refine PW.skip ?_
    | refine PW.exit ?_
    | refine PW.block ?_
    | refine PW.condT rfl ?_
    | refine PW.condF rfl ?_
    | (refine PW.condD rfl (fun hc => ?_) (fun hc => ?_) <;> first | (exfalso; omega) | skip)
    | (refine PW.condN rfl (fun hc => ?_) (fun hc => ?_) <;> first | (exfalso; omega) | skip)
    | refine PW.cond rfl (fun hc => ?_) (fun hc => ?_)
    | refine PW.regQ [] ?_
    | refine PW.drawG sc_8 [] hmix (by kernel_rfl) (fun K hK => ?_)
    | refine PW.label ?_
    | omega
    | (split <;> first | contradiction | skip)
  refine PW.sregN kt_8 [] (fun K hK => ?_)
  repeat' first
    | exact True.intro
    | refine runQ_step (fun K hK => ?_)
    | refine runQ_end ?_
    | simp only [push_cast, ↓reduceIte, Nat.reduceAdd, Nat.reduceSub, Nat.reduceMul, Nat.reduceEqDiff, Nat.reduceLT, Nat.reduceLeDiff, Int.reduceToNat, reduceCtorEq, Int.reduceEq, Int.reduceLT, Int.reduceLE, Int.reduceAdd, Int.reduceSub, Int.reduceMul, Int.reduceNeg, MV.top, kt_8, ti1, ti2, ti3, ti4, ti22, ti23, ti25, ti30, ti32, ti41, ti49, ti63, eqt30, eqt63, strm]
    | refine And.intro ?_ ?_
    | (refine hK _ ?_; clear hK K)
    | (refine hK _ ?_ ?_ <;> clear hK K)
    | apply_assumption (exfalso := false) (symm := false) only [*]
    | refine runQ_gC rfl (fun K hK => ?_)
    | refine runQ_gS rfl rfl ?_
    | refine runQ_gU rfl rfl ?_
    | (refine runQ_gT rfl (fun hc K hK => ?_) (fun hc => ?_) <;> first | (exfalso; omega) | skip)
    | (refine runQ_gF rfl (fun hc K hK => ?_) (fun hc => ?_) <;> first | (exfalso; omega) | skip)
    | refine runQ_guard rfl (fun hc K hK => ?_) (fun hc => ?_)
    | refine DrG.take rfl rfl rfl (by kernel_rfl) rfl (fun K hK => ?_)
    | refine DrG.one rfl rfl (by kernel_rfl) (by kernel_rfl) (by kernel_rfl) (fun K hK => ?_)
    | refine DrG.fin rfl (by kernel_rfl) (by kernel_rfl) ?_
    | refine Still.ofR rfl rfl rfl (by kernel_rfl) rfl (fun K hK => ?_)
    | refine DrG.takeW rfl rfl rfl rfl rfl (by kernel_rfl) rfl (fun K hK => ?_)
    | refine DrG.skipW rfl rfl rfl rfl rfl (by kernel_rfl) rfl ?_
    | refine DrG.oneW rfl rfl rfl rfl (by kernel_rfl) (by kernel_rfl) (by kernel_rfl) (fun K hK => ?_)
    | refine DrG.oneS rfl rfl rfl rfl rfl (by kernel_rfl) (by kernel_rfl) (by kernel_rfl) (by simp only [dOk]; omega) (fun K hK => ?_)
    | refine DrG.oneU rfl rfl rfl rfl (by kernel_rfl) (by kernel_rfl) (by kernel_rfl) (by simp only [dOk]; omega) (fun K hK => ?_)
    | refine Still.ofGW rfl rfl rfl rfl (by kernel_rfl) rfl (fun K hK => ?_)
    | refine Still.ofGS rfl rfl rfl rfl (by kernel_rfl) rfl
    | refine PW.ret ?_
    | refine PW.skip ?_
    | refine PW.exit ?_
    | refine PW.block ?_
    | refine PW.condT rfl ?_
    | refine PW.condF rfl ?_
    | (refine PW.condD rfl (fun hc => ?_) (fun hc => ?_) <;> first | (exfalso; omega) | skip)
    | (refine PW.condN rfl (fun hc => ?_) (fun hc => ?_) <;> first | (exfalso; omega) | skip)
    | refine PW.cond rfl (fun hc => ?_) (fun hc => ?_)
    | refine PW.regQ [] ?_
    | refine PW.drawG sc_8 [] hmix (by kernel_rfl) (fun K hK => ?_)
    | refine PW.label ?_
    | omega
    | (split <;> first | contradiction | skip)
  refine PW.sregN kt_8 [] (fun K hK => ?_)
  repeat' first
    | exact True.intro
    | refine runQ_step (fun K hK => ?_)
    | refine runQ_end ?_
    | simp only [push_cast, ↓reduceIte, Nat.reduceAdd, Nat.reduceSub, Nat.reduceMul, Nat.reduceEqDiff, Nat.reduceLT, Nat.reduceLeDiff, Int.reduceToNat, reduceCtorEq, Int.reduceEq, Int.reduceLT, Int.reduceLE, Int.reduceAdd, Int.reduceSub, Int.reduceMul, Int.reduceNeg, MV.top, kt_8, ti1, ti2, ti3, ti4, ti22, ti23, ti25, ti30, ti32, ti41, ti49, ti63, eqt30, eqt63, strm]
    | refine And.intro ?_ ?_
    | (refine hK _ ?_; clear hK K)
    | (refine hK _ ?_ ?_ <;> clear hK K)
    | apply_assumption (exfalso := false) (symm := false) only [*]
    | refine runQ_gC rfl (fun K hK => ?_)
    | refine runQ_gS rfl rfl ?_
    | refine runQ_gU rfl rfl ?_
    | (refine runQ_gT rfl (fun hc K hK => ?_) (fun hc => ?_) <;> first | (exfalso; omega) | skip)
    | (refine runQ_gF rfl (fun hc K hK => ?_) (fun hc => ?_) <;> first | (exfalso; omega) | skip)
    | refine runQ_guard rfl (fun hc K hK => ?_) (fun hc => ?_)
    | refine DrG.take rfl rfl rfl (by kernel_rfl) rfl (fun K hK => ?_)
    | refine DrG.one rfl rfl (by kernel_rfl) (by kernel_rfl) (by kernel_rfl) (fun K hK => ?_)
    | refine DrG.fin rfl (by kernel_rfl) (by kernel_rfl) ?_
    | refine Still.ofR rfl rfl rfl (by kernel_rfl) rfl (fun K hK => ?_)
    | refine DrG.takeW rfl rfl rfl rfl rfl (by kernel_rfl) rfl (fun K hK => ?_)
    | refine DrG.skipW rfl rfl rfl rfl rfl (by kernel_rfl) rfl ?_
    | refine DrG.oneW rfl rfl rfl rfl (by kernel_rfl) (by kernel_rfl) (by kernel_rfl) (fun K hK => ?_)
    | refine DrG.oneS rfl rfl rfl rfl rfl (by kernel_rfl) (by kernel_rfl) (by kernel_rfl) (by simp only [dOk]; omega) (fun K hK => ?_)
    | refine DrG.oneU rfl rfl rfl rfl (by kernel_rfl) (by kernel_rfl) (by kernel_rfl) (by simp only [dOk]; omega) (fun K hK => ?_)
    | refine Still.ofGW rfl rfl rfl rfl (by kernel_rfl) rfl (fun K hK => ?_)
    | refine Still.ofGS rfl rfl rfl rfl (by kernel_rfl) rfl
    | refine PW.ret ?_
    | refine PW.skip ?_
    | refine PW.exit ?_
    | refine PW.block ?_
    | refine PW.condT rfl ?_
    | refine PW.condF rfl ?_
    | (refine PW.condD rfl (fun hc => ?_) (fun hc => ?_) <;> first | (exfalso; omega) | skip)
    | (refine PW.condN rfl (fun hc => ?_) (fun hc => ?_) <;> first | (exfalso; omega) | skip)
    | refine PW.cond rfl (fun hc => ?_) (fun hc => ?_)
    | refine PW.regQ [] ?_
    | refine PW.drawG sc_8 [] hmix (by kernel_rfl) (fun K hK => ?_)
    | refine PW.label ?_
    | omega
    | (split <;> first | contradiction | skip)
  refine PW.cutE [3, 5, 6, 7, 8] (fun q : Int × Int × Int × Int => ⟨[(3, .sh (.ptr 1 0)), (5, .sh (.int .i64 q.1)), (6, .sh (.int .i64 q.2.1)), (7, .sh (.int .i64 q.2.2.1)), (8, .sh (.int .i64 q.2.2.2))], [strm ls 8, some [.sh (.ptr 0 0)]]⟩) (fun q => (0 ≤ q.1 ∧ q.1 ≤ 1000000) ∧ (0 ≤ q.2.1 ∧ q.2.1 ≤ 1000000) ∧ (0 ≤ q.2.2.1 ∧ q.2.2.1 ≤ 1000000) ∧ (0 ≤ q.2.2.2 ∧ q.2.2.2 ≤ 1000000)) ?_ (fun q hq => ?_)
  · skip
    repeat' first
      | exact True.intro
      | refine runQ_step (fun K hK => ?_)
      | refine runQ_end ?_
      | refine PW.sregN kt_8 [] (fun K hK => ?_)
      | simp only [push_cast, ↓reduceIte, Nat.reduceAdd, Nat.reduceSub, Nat.reduceMul, Nat.reduceEqDiff, Nat.reduceLT, Nat.reduceLeDiff, Int.reduceToNat, reduceCtorEq, Int.reduceEq, Int.reduceLT, Int.reduceLE, Int.reduceAdd, Int.reduceSub, Int.reduceMul, Int.reduceNeg, MV.top, kt_8, ti1, ti2, ti3, ti4, ti22, ti23, ti25, ti30, ti32, ti41, ti49, ti63, eqt30, eqt63, strm]
      | refine And.intro ?_ ?_
      | (refine hK _ ?_; clear hK K)
      | (refine hK _ ?_ ?_ <;> clear hK K)
      | apply_assumption (exfalso := false) (symm := false) only [*]
      | refine runQ_gC rfl (fun K hK => ?_)
      | refine runQ_gS rfl rfl ?_
      | refine runQ_gU rfl rfl ?_
      | (refine runQ_gT rfl (fun hc K hK => ?_) (fun hc => ?_) <;> first | (exfalso; omega) | skip)
      | (refine runQ_gF rfl (fun hc K hK => ?_) (fun hc => ?_) <;> first | (exfalso; omega) | skip)
      | refine runQ_guard rfl (fun hc K hK => ?_) (fun hc => ?_)
      | refine DrG.take rfl rfl rfl (by kernel_rfl) rfl (fun K hK => ?_)
      | refine DrG.one rfl rfl (by kernel_rfl) (by kernel_rfl) (by kernel_rfl) (fun K hK => ?_)
      | refine DrG.fin rfl (by kernel_rfl) (by kernel_rfl) ?_
      | refine Still.ofR rfl rfl rfl (by kernel_rfl) rfl (fun K hK => ?_)
      | refine DrG.takeW rfl rfl rfl rfl rfl (by kernel_rfl) rfl (fun K hK => ?_)
      | refine DrG.skipW rfl rfl rfl rfl rfl (by kernel_rfl) rfl ?_
      | refine DrG.oneW rfl rfl rfl rfl (by kernel_rfl) (by kernel_rfl) (by kernel_rfl) (fun K hK => ?_)
      | refine DrG.oneS rfl rfl rfl rfl rfl (by kernel_rfl) (by kernel_rfl) (by kernel_rfl) (by simp only [dOk]; omega) (fun K hK => ?_)
      | refine DrG.oneU rfl rfl rfl rfl (by kernel_rfl) (by kernel_rfl) (by kernel_rfl) (by simp only [dOk]; omega) (fun K hK => ?_)
      | refine Still.ofGW rfl rfl rfl rfl (by kernel_rfl) rfl (fun K hK => ?_)
      | refine Still.ofGS rfl rfl rfl rfl (by kernel_rfl) rfl
      | refine calP_box rfl rfl (judN_spec (k := 0) (ls := ls) rfl rfl (by omega) (by omega) (by omega)) ?_
      | refine PW.seq (fun K hK => ?_)
      | refine PW.ret ?_
      | refine PW.skip ?_
      | refine PW.exit ?_
      | refine PW.block ?_
      | refine PW.condT rfl ?_
      | refine PW.condF rfl ?_
      | (refine PW.condD rfl (fun hc => ?_) (fun hc => ?_) <;> first | (exfalso; omega) | skip)
      | (refine PW.condN rfl (fun hc => ?_) (fun hc => ?_) <;> first | (exfalso; omega) | skip)
      | refine PW.cond rfl (fun hc => ?_) (fun hc => ?_)
      | refine PW.regQ [] ?_
      | refine PW.sdrawG kt_8 sc_8 [] hmix (by kernel_rfl) (fun K hK => ?_)
      | refine PW.drawG sc_8 [] hmix (by kernel_rfl) (fun K hK => ?_)
      | refine PW.label ?_
      | omega
      | (split <;> first | contradiction | skip)
    all_goals exact ⟨(_, _, _, _), rfl, judN_bd _ _, judN_bd _ _, judN_bd _ _, judN_bd _ _⟩
  obtain ⟨a, b, c0, d⟩ := q
  obtain ⟨ha, hb, hc0, hd⟩ := hq
  simp only at ha hb hc0 hd ⊢
  refine PW.cutE [5, 6, 7, 8] (fun q : Int × Int => ⟨[(5, .sh (.int .i64 a)), (6, .sh (.int .i64 b)), (7, .sh (.int .i64 q.1)), (8, .sh (.int .i64 d))], [strm ls q.2, some [.sh (.ptr 0 0)]]⟩) (fun q => (0 ≤ q.1 ∧ q.1 ≤ 1000000) ∨ q.1 = -1 ∨ q.1 = 1000001) ?_ (fun q hq => ?_)
  · skip
    repeat' first
      | exact True.intro
      | refine runQ_step (fun K hK => ?_)
      | refine runQ_end ?_
      | refine PW.sregN kt_8 [] (fun K hK => ?_)
      | simp only [push_cast, ↓reduceIte, Nat.reduceAdd, Nat.reduceSub, Nat.reduceMul, Nat.reduceEqDiff, Nat.reduceLT, Nat.reduceLeDiff, Int.reduceToNat, reduceCtorEq, Int.reduceEq, Int.reduceLT, Int.reduceLE, Int.reduceAdd, Int.reduceSub, Int.reduceMul, Int.reduceNeg, MV.top, kt_8, ti1, ti2, ti3, ti4, ti22, ti23, ti25, ti30, ti32, ti41, ti49, ti63, eqt30, eqt63, strm]
      | refine And.intro ?_ ?_
      | (refine hK _ ?_; clear hK K)
      | (refine hK _ ?_ ?_ <;> clear hK K)
      | apply_assumption (exfalso := false) (symm := false) only [*]
      | refine runQ_gC rfl (fun K hK => ?_)
      | refine runQ_gS rfl rfl ?_
      | refine runQ_gU rfl rfl ?_
      | (refine runQ_gT rfl (fun hc K hK => ?_) (fun hc => ?_) <;> first | (exfalso; omega) | skip)
      | (refine runQ_gF rfl (fun hc K hK => ?_) (fun hc => ?_) <;> first | (exfalso; omega) | skip)
      | refine runQ_guard rfl (fun hc K hK => ?_) (fun hc => ?_)
      | refine DrG.take rfl rfl rfl (by kernel_rfl) rfl (fun K hK => ?_)
      | refine DrG.one rfl rfl (by kernel_rfl) (by kernel_rfl) (by kernel_rfl) (fun K hK => ?_)
      | refine DrG.fin rfl (by kernel_rfl) (by kernel_rfl) ?_
      | refine Still.ofR rfl rfl rfl (by kernel_rfl) rfl (fun K hK => ?_)
      | refine DrG.takeW rfl rfl rfl rfl rfl (by kernel_rfl) rfl (fun K hK => ?_)
      | refine DrG.skipW rfl rfl rfl rfl rfl (by kernel_rfl) rfl ?_
      | refine DrG.oneW rfl rfl rfl rfl (by kernel_rfl) (by kernel_rfl) (by kernel_rfl) (fun K hK => ?_)
      | refine DrG.oneS rfl rfl rfl rfl rfl (by kernel_rfl) (by kernel_rfl) (by kernel_rfl) (by simp only [dOk]; omega) (fun K hK => ?_)
      | refine DrG.oneU rfl rfl rfl rfl (by kernel_rfl) (by kernel_rfl) (by kernel_rfl) (by simp only [dOk]; omega) (fun K hK => ?_)
      | refine Still.ofGW rfl rfl rfl rfl (by kernel_rfl) rfl (fun K hK => ?_)
      | refine Still.ofGS rfl rfl rfl rfl (by kernel_rfl) rfl
      | refine calP_box rfl rfl (Flip_spec (k := 0) (ls := ls) 12 rfl (by omega) (by omega)) ?_
      | refine calP_box rfl rfl (Pick_spec (k := 0) (ls := ls) [-1, 1000001] rfl (by omega) (by omega) (by simp) (by simp)) ?_
      | refine PW.seq (fun K hK => ?_)
      | refine PW.ret ?_
      | refine PW.skip ?_
      | refine PW.exit ?_
      | refine PW.block ?_
      | refine PW.condT rfl ?_
      | refine PW.condF rfl ?_
      | (refine PW.condD rfl (fun hc => ?_) (fun hc => ?_) <;> first | (exfalso; omega) | skip)
      | (refine PW.condN rfl (fun hc => ?_) (fun hc => ?_) <;> first | (exfalso; omega) | skip)
      | refine PW.cond rfl (fun hc => ?_) (fun hc => ?_)
      | refine PW.regQ [] ?_
      | refine PW.sdrawG kt_8 sc_8 [] hmix (by kernel_rfl) (fun K hK => ?_)
      | refine PW.drawG sc_8 [] hmix (by kernel_rfl) (fun K hK => ?_)
      | refine PW.label ?_
      | omega
      | (split <;> first | contradiction | skip)
    · have := pickV_mem (ls := ls) (at_ := 9) (xs := [-1, 1000001]) (by simp) (by simp)
      simp only [List.mem_cons, List.not_mem_nil, or_false] at this
      exact ⟨(_, _), rfl, .inr this⟩
    · exact ⟨(_, _), rfl, .inl hc0⟩
  obtain ⟨c, at2⟩ := q
  simp only at hq ⊢
  clear hc0
  generalize strm ls at2 = bx
  have ed := drawn_spec
  by_cases hc : 0 ≤ c ∧ c ≤ 1000000
  · clear hq
    have n1 : ¬ c < 0 := by omega
    have n2 : ¬ 1000000 < c := by omega
    have e1 := Judge_good a b c ha hb hc
    have e2 := JudgeOf_spec a b c ha hb hc
    have w1 : IntKind.i64.wrap (a + b) = a + b := wrap_id (by omega) (by omega)
    have w2 : IntKind.i64.wrap (a + b + c) = a + b + c := wrap_id (by omega) (by omega)
    have w3 : IntKind.i64.wrap (a + b + c + d) = a + b + c + d := wrap_id (by omega) (by omega)
    unfold judgeM at e1 e2
    obtain ⟨x1, y1, z1⟩ := wholeL_two a (a + b)
    obtain ⟨x2, y2, z2⟩ := wholeL_two a (a + c)
    obtain ⟨x3, y3, z3⟩ := wholeL_two (2 * a) (2 * a + b + c)
    rw [z1, z2, z3] at e1 e2
    clear z1 z2 z3
    by_cases ht : a + b + c + d = 0
    · obtain rfl : a = 0 := by omega
      obtain rfl : b = 0 := by omega
      obtain rfl : c = 0 := by omega
      obtain rfl : d = 0 := by omega
      have e3 := Kappa_none
      have w0 : IntKind.i64.wrap 0 = 0 := by decide
      repeat' first
        | exact True.intro
        | refine runQ_step (fun K hK => ?_)
        | refine runQ_end ?_
        | refine PW.sregN kt_8 [] (fun K hK => ?_)
        | simp only [push_cast, ↓reduceIte, Nat.reduceAdd, Nat.reduceSub, Nat.reduceMul, Nat.reduceEqDiff, Nat.reduceLT, Nat.reduceLeDiff, Int.reduceToNat, reduceCtorEq, Int.reduceEq, Int.reduceLT, Int.reduceLE, Int.reduceAdd, Int.reduceSub, Int.reduceMul, Int.reduceNeg, MV.top, kt_8, ti1, ti2, ti3, ti4, ti22, ti23, ti25, ti30, ti32, ti41, ti49, ti63, eqt30, eqt63, w0]
        | refine And.intro ?_ ?_
        | (refine hK _ ?_; clear hK K)
        | (refine hK _ ?_ ?_ <;> clear hK K)
        | apply_assumption (exfalso := false) (symm := false) only [*]
        | refine runQ_gC rfl (fun K hK => ?_)
        | refine runQ_gS rfl rfl ?_
        | refine runQ_gU rfl rfl ?_
        | (refine runQ_gT rfl (fun hc K hK => ?_) (fun hc => ?_) <;> first | (exfalso; omega) | skip)
        | (refine runQ_gF rfl (fun hc K hK => ?_) (fun hc => ?_) <;> first | (exfalso; omega) | skip)
        | refine runQ_guard rfl (fun hc K hK => ?_) (fun hc => ?_)
        | refine DrG.take rfl rfl rfl (by kernel_rfl) rfl (fun K hK => ?_)
        | refine DrG.one rfl rfl (by kernel_rfl) (by kernel_rfl) (by kernel_rfl) (fun K hK => ?_)
        | refine DrG.fin rfl (by kernel_rfl) (by kernel_rfl) ?_
        | refine Still.ofR rfl rfl rfl (by kernel_rfl) rfl (fun K hK => ?_)
        | refine DrG.takeW rfl rfl rfl rfl rfl (by kernel_rfl) rfl (fun K hK => ?_)
        | refine DrG.skipW rfl rfl rfl rfl rfl (by kernel_rfl) rfl ?_
        | refine DrG.oneW rfl rfl rfl rfl (by kernel_rfl) (by kernel_rfl) (by kernel_rfl) (fun K hK => ?_)
        | refine DrG.oneS rfl rfl rfl rfl rfl (by kernel_rfl) (by kernel_rfl) (by kernel_rfl) (by simp only [dOk]; omega) (fun K hK => ?_)
        | refine DrG.oneU rfl rfl rfl rfl (by kernel_rfl) (by kernel_rfl) (by kernel_rfl) (by simp only [dOk]; omega) (fun K hK => ?_)
        | refine Still.ofGW rfl rfl rfl rfl (by kernel_rfl) rfl (fun K hK => ?_)
        | refine Still.ofGS rfl rfl rfl rfl (by kernel_rfl) rfl
        | refine calP_lent rfl rfl e1 rfl ?_
        | refine calP_lent rfl rfl e2 rfl ?_
        | refine calP_lent rfl rfl e3 rfl ?_
        | refine calP_lent rfl rfl ed rfl ?_
        | refine PW.seq (fun K hK => ?_)
        | refine PW.ret ?_
        | refine PW.skip ?_
        | refine PW.exit ?_
        | refine PW.block ?_
        | refine PW.condT rfl ?_
        | refine PW.condF rfl ?_
        | (refine PW.condD rfl (fun hc => ?_) (fun hc => ?_) <;> first | (exfalso; omega) | skip)
        | (refine PW.condN rfl (fun hc => ?_) (fun hc => ?_) <;> first | (exfalso; omega) | skip)
        | refine PW.cond rfl (fun hc => ?_) (fun hc => ?_)
        | refine PW.regQ [] ?_
        | refine PW.sdrawG kt_8 sc_8 [] hmix (by kernel_rfl) (fun K hK => ?_)
        | refine PW.drawG sc_8 [] hmix (by kernel_rfl) (fun K hK => ?_)
        | refine PW.label ?_
        | omega
        | (split <;> first | contradiction | skip)
    · have e3 := Kappa_good a b c d ha hb hc hd ht
      have e4 := KappaOf_spec a b c d ha hb hc hd ht
      obtain ⟨x4, y4, z4⟩ := wholeL_two ((a + d) * (a + b + c + d) - ((a + b) * (a + c) + (c + d) * (b + d))) ((a + b + c + d) * (a + b + c + d) - ((a + b) * (a + c) + (c + d) * (b + d)))
      rw [z4] at e3 e4
      clear z4
      repeat' first
        | exact True.intro
        | refine runQ_step (fun K hK => ?_)
        | refine runQ_end ?_
        | refine PW.sregN kt_8 [] (fun K hK => ?_)
        | simp only [push_cast, ↓reduceIte, Nat.reduceAdd, Nat.reduceSub, Nat.reduceMul, Nat.reduceEqDiff, Nat.reduceLT, Nat.reduceLeDiff, Int.reduceToNat, reduceCtorEq, Int.reduceEq, Int.reduceLT, Int.reduceLE, Int.reduceAdd, Int.reduceSub, Int.reduceMul, Int.reduceNeg, MV.top, kt_8, ti1, ti2, ti3, ti4, ti22, ti23, ti25, ti30, ti32, ti41, ti49, ti63, eqt30, eqt63, n1, n2, w1, w2, w3, ht]
        | refine And.intro ?_ ?_
        | (refine hK _ ?_; clear hK K)
        | (refine hK _ ?_ ?_ <;> clear hK K)
        | apply_assumption (exfalso := false) (symm := false) only [*]
        | refine runQ_gC rfl (fun K hK => ?_)
        | refine runQ_gS rfl rfl ?_
        | refine runQ_gU rfl rfl ?_
        | (refine runQ_gT rfl (fun hc K hK => ?_) (fun hc => ?_) <;> first | (exfalso; omega) | skip)
        | (refine runQ_gF rfl (fun hc K hK => ?_) (fun hc => ?_) <;> first | (exfalso; omega) | skip)
        | refine runQ_guard rfl (fun hc K hK => ?_) (fun hc => ?_)
        | refine DrG.take rfl rfl rfl (by kernel_rfl) rfl (fun K hK => ?_)
        | refine DrG.one rfl rfl (by kernel_rfl) (by kernel_rfl) (by kernel_rfl) (fun K hK => ?_)
        | refine DrG.fin rfl (by kernel_rfl) (by kernel_rfl) ?_
        | refine Still.ofR rfl rfl rfl (by kernel_rfl) rfl (fun K hK => ?_)
        | refine DrG.takeW rfl rfl rfl rfl rfl (by kernel_rfl) rfl (fun K hK => ?_)
        | refine DrG.skipW rfl rfl rfl rfl rfl (by kernel_rfl) rfl ?_
        | refine DrG.oneW rfl rfl rfl rfl (by kernel_rfl) (by kernel_rfl) (by kernel_rfl) (fun K hK => ?_)
        | refine DrG.oneS rfl rfl rfl rfl rfl (by kernel_rfl) (by kernel_rfl) (by kernel_rfl) (by simp only [dOk]; omega) (fun K hK => ?_)
        | refine DrG.oneU rfl rfl rfl rfl (by kernel_rfl) (by kernel_rfl) (by kernel_rfl) (by simp only [dOk]; omega) (fun K hK => ?_)
        | refine Still.ofGW rfl rfl rfl rfl (by kernel_rfl) rfl (fun K hK => ?_)
        | refine Still.ofGS rfl rfl rfl rfl (by kernel_rfl) rfl
        | refine calP_lent rfl rfl e1 rfl ?_
        | refine calP_lent rfl rfl e2 rfl ?_
        | refine calP_lent rfl rfl e3 rfl ?_
        | refine calP_lent rfl rfl e4 rfl ?_
        | refine calP_lent rfl rfl ed rfl ?_
        | refine PW.seq (fun K hK => ?_)
        | refine PW.ret ?_
        | refine PW.skip ?_
        | refine PW.exit ?_
        | refine PW.block ?_
        | refine PW.condT rfl ?_
        | refine PW.condF rfl ?_
        | (refine PW.condD rfl (fun hc => ?_) (fun hc => ?_) <;> first | (exfalso; omega) | skip)
        | (refine PW.condN rfl (fun hc => ?_) (fun hc => ?_) <;> first | (exfalso; omega) | skip)
        | refine PW.cond rfl (fun hc => ?_) (fun hc => ?_)
        | refine PW.regQ [] ?_
        | refine PW.sdrawG kt_8 sc_8 [] hmix (by kernel_rfl) (fun K hK => ?_)
        | refine PW.drawG sc_8 [] hmix (by kernel_rfl) (fun K hK => ?_)
        | refine PW.label ?_
        | omega
        | (split <;> first | contradiction | skip)
  · have hb2 : inV c 0 1000000 = false := by simp [inV]; omega
    have e1 := Judge_bad a b c hb2
    have e3 := Kappa_bad a b c d hb2
    rcases hq with hq | rfl | rfl
    · exact absurd hq hc
    · skip
      repeat' first
        | exact True.intro
        | refine runQ_step (fun K hK => ?_)
        | refine runQ_end ?_
        | refine PW.sregN kt_8 [] (fun K hK => ?_)
        | simp only [push_cast, ↓reduceIte, Nat.reduceAdd, Nat.reduceSub, Nat.reduceMul, Nat.reduceEqDiff, Nat.reduceLT, Nat.reduceLeDiff, Int.reduceToNat, reduceCtorEq, Int.reduceEq, Int.reduceLT, Int.reduceLE, Int.reduceAdd, Int.reduceSub, Int.reduceMul, Int.reduceNeg, MV.top, kt_8, ti1, ti2, ti3, ti4, ti22, ti23, ti25, ti30, ti32, ti41, ti49, ti63, eqt30, eqt63]
        | refine And.intro ?_ ?_
        | (refine hK _ ?_; clear hK K)
        | (refine hK _ ?_ ?_ <;> clear hK K)
        | apply_assumption (exfalso := false) (symm := false) only [*]
        | refine runQ_gC rfl (fun K hK => ?_)
        | refine runQ_gS rfl rfl ?_
        | refine runQ_gU rfl rfl ?_
        | (refine runQ_gT rfl (fun hc K hK => ?_) (fun hc => ?_) <;> first | (exfalso; omega) | skip)
        | (refine runQ_gF rfl (fun hc K hK => ?_) (fun hc => ?_) <;> first | (exfalso; omega) | skip)
        | refine runQ_guard rfl (fun hc K hK => ?_) (fun hc => ?_)
        | refine DrG.take rfl rfl rfl (by kernel_rfl) rfl (fun K hK => ?_)
        | refine DrG.one rfl rfl (by kernel_rfl) (by kernel_rfl) (by kernel_rfl) (fun K hK => ?_)
        | refine DrG.fin rfl (by kernel_rfl) (by kernel_rfl) ?_
        | refine Still.ofR rfl rfl rfl (by kernel_rfl) rfl (fun K hK => ?_)
        | refine DrG.takeW rfl rfl rfl rfl rfl (by kernel_rfl) rfl (fun K hK => ?_)
        | refine DrG.skipW rfl rfl rfl rfl rfl (by kernel_rfl) rfl ?_
        | refine DrG.oneW rfl rfl rfl rfl (by kernel_rfl) (by kernel_rfl) (by kernel_rfl) (fun K hK => ?_)
        | refine DrG.oneS rfl rfl rfl rfl rfl (by kernel_rfl) (by kernel_rfl) (by kernel_rfl) (by simp only [dOk]; omega) (fun K hK => ?_)
        | refine DrG.oneU rfl rfl rfl rfl (by kernel_rfl) (by kernel_rfl) (by kernel_rfl) (by simp only [dOk]; omega) (fun K hK => ?_)
        | refine Still.ofGW rfl rfl rfl rfl (by kernel_rfl) rfl (fun K hK => ?_)
        | refine Still.ofGS rfl rfl rfl rfl (by kernel_rfl) rfl
        | refine calP_lent rfl rfl e1 rfl ?_
        | refine calP_lent rfl rfl e3 rfl ?_
        | refine calP_lent rfl rfl ed rfl ?_
        | refine PW.seq (fun K hK => ?_)
        | refine PW.ret ?_
        | refine PW.skip ?_
        | refine PW.exit ?_
        | refine PW.block ?_
        | refine PW.condT rfl ?_
        | refine PW.condF rfl ?_
        | (refine PW.condD rfl (fun hc => ?_) (fun hc => ?_) <;> first | (exfalso; omega) | skip)
        | (refine PW.condN rfl (fun hc => ?_) (fun hc => ?_) <;> first | (exfalso; omega) | skip)
        | refine PW.cond rfl (fun hc => ?_) (fun hc => ?_)
        | refine PW.regQ [] ?_
        | refine PW.sdrawG kt_8 sc_8 [] hmix (by kernel_rfl) (fun K hK => ?_)
        | refine PW.drawG sc_8 [] hmix (by kernel_rfl) (fun K hK => ?_)
        | refine PW.label ?_
        | omega
        | (split <;> first | contradiction | skip)
    · skip
      repeat' first
        | exact True.intro
        | refine runQ_step (fun K hK => ?_)
        | refine runQ_end ?_
        | refine PW.sregN kt_8 [] (fun K hK => ?_)
        | simp only [push_cast, ↓reduceIte, Nat.reduceAdd, Nat.reduceSub, Nat.reduceMul, Nat.reduceEqDiff, Nat.reduceLT, Nat.reduceLeDiff, Int.reduceToNat, reduceCtorEq, Int.reduceEq, Int.reduceLT, Int.reduceLE, Int.reduceAdd, Int.reduceSub, Int.reduceMul, Int.reduceNeg, MV.top, kt_8, ti1, ti2, ti3, ti4, ti22, ti23, ti25, ti30, ti32, ti41, ti49, ti63, eqt30, eqt63]
        | refine And.intro ?_ ?_
        | (refine hK _ ?_; clear hK K)
        | (refine hK _ ?_ ?_ <;> clear hK K)
        | apply_assumption (exfalso := false) (symm := false) only [*]
        | refine runQ_gC rfl (fun K hK => ?_)
        | refine runQ_gS rfl rfl ?_
        | refine runQ_gU rfl rfl ?_
        | (refine runQ_gT rfl (fun hc K hK => ?_) (fun hc => ?_) <;> first | (exfalso; omega) | skip)
        | (refine runQ_gF rfl (fun hc K hK => ?_) (fun hc => ?_) <;> first | (exfalso; omega) | skip)
        | refine runQ_guard rfl (fun hc K hK => ?_) (fun hc => ?_)
        | refine DrG.take rfl rfl rfl (by kernel_rfl) rfl (fun K hK => ?_)
        | refine DrG.one rfl rfl (by kernel_rfl) (by kernel_rfl) (by kernel_rfl) (fun K hK => ?_)
        | refine DrG.fin rfl (by kernel_rfl) (by kernel_rfl) ?_
        | refine Still.ofR rfl rfl rfl (by kernel_rfl) rfl (fun K hK => ?_)
        | refine DrG.takeW rfl rfl rfl rfl rfl (by kernel_rfl) rfl (fun K hK => ?_)
        | refine DrG.skipW rfl rfl rfl rfl rfl (by kernel_rfl) rfl ?_
        | refine DrG.oneW rfl rfl rfl rfl (by kernel_rfl) (by kernel_rfl) (by kernel_rfl) (fun K hK => ?_)
        | refine DrG.oneS rfl rfl rfl rfl rfl (by kernel_rfl) (by kernel_rfl) (by kernel_rfl) (by simp only [dOk]; omega) (fun K hK => ?_)
        | refine DrG.oneU rfl rfl rfl rfl (by kernel_rfl) (by kernel_rfl) (by kernel_rfl) (by simp only [dOk]; omega) (fun K hK => ?_)
        | refine Still.ofGW rfl rfl rfl rfl (by kernel_rfl) rfl (fun K hK => ?_)
        | refine Still.ofGS rfl rfl rfl rfl (by kernel_rfl) rfl
        | refine calP_lent rfl rfl e1 rfl ?_
        | refine calP_lent rfl rfl e3 rfl ?_
        | refine calP_lent rfl rfl ed rfl ?_
        | refine PW.seq (fun K hK => ?_)
        | refine PW.ret ?_
        | refine PW.skip ?_
        | refine PW.exit ?_
        | refine PW.block ?_
        | refine PW.condT rfl ?_
        | refine PW.condF rfl ?_
        | (refine PW.condD rfl (fun hc => ?_) (fun hc => ?_) <;> first | (exfalso; omega) | skip)
        | (refine PW.condN rfl (fun hc => ?_) (fun hc => ?_) <;> first | (exfalso; omega) | skip)
        | refine PW.cond rfl (fun hc => ?_) (fun hc => ?_)
        | refine PW.regQ [] ?_
        | refine PW.sdrawG kt_8 sc_8 [] hmix (by kernel_rfl) (fun K hK => ?_)
        | refine PW.drawG sc_8 [] hmix (by kernel_rfl) (fun K hK => ?_)
        | refine PW.label ?_
        | omega
        | (split <;> first | contradiction | skip)
end Go.Pv

