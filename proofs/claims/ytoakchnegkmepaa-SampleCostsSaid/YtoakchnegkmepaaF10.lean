/- The law SampleCosts. -/
import Derived.Test.YtoakchnegkmepaaF9
set_option linter.unusedSimpArgs false
set_option linter.unusedVariables false
set_option maxRecDepth 100000
set_option maxHeartbeats 8000000
namespace Go.Pv
open Go Go.Proofs
attribute [local irreducible] PW Dr DrS DrN DrG DrH Spec SpecB runQ opP calP gdP Still

theorem np_ints (ls : List Int) : np (ints ls) = true := by
  unfold ints
  simp only [np]
  induction ls with
  | nil => rfl
  | cons a r ih => simp only [List.map_cons, npLL, npL, np, Bool.and_true, Bool.true_and]; exact ih

/-- Plans for open orders. -/
def sc_6 : List (Nat × Sc) := [(3, .take 0 (.take 2 (.take 4 (.take 6 (.two 1 [6, 4, 2] (.two 3 [6, 4] (.two 5 [6] (.two 7 [6] (.two 8 [] (.two 9 [] (.one 10 [] (.one 11 [] (.fin))) (.one 10 [] (.one 9 [] (.one 11 [] (.fin))))) (.one 10 [6] (.one 8 [] (.one 9 [] (.one 11 [] (.fin)))))) (.one 10 [6] (.one 7 [6] (.one 8 [] (.one 9 [] (.one 11 [] (.fin))))))) (.two 7 [6, 4] (.two 5 [6] (.two 8 [] (.two 9 [] (.one 10 [] (.one 11 [] (.fin))) (.one 10 [] (.one 9 [] (.one 11 [] (.fin))))) (.one 10 [6] (.one 8 [] (.one 9 [] (.one 11 [] (.fin)))))) (.one 10 [6, 4] (.one 5 [6] (.one 8 [] (.one 9 [] (.one 11 [] (.fin))))))) (.one 10 [6, 4] (.two 5 [6] (.one 7 [6] (.one 8 [] (.one 9 [] (.one 11 [] (.fin))))) (.one 7 [6, 4] (.one 5 [6] (.one 8 [] (.one 9 [] (.one 11 [] (.fin)))))))))) (.two 7 [6, 4, 2] (.two 3 [6, 4] (.two 5 [6] (.two 8 [] (.two 9 [] (.one 10 [] (.one 11 [] (.fin))) (.one 10 [] (.one 9 [] (.one 11 [] (.fin))))) (.one 10 [6] (.one 8 [] (.one 9 [] (.one 11 [] (.fin)))))) (.one 10 [6, 4] (.one 5 [6] (.one 8 [] (.one 9 [] (.one 11 [] (.fin))))))) (.one 10 [6, 4, 2] (.one 3 [6, 4] (.one 5 [6] (.one 8 [] (.one 9 [] (.one 11 [] (.fin)))))))) (.one 10 [6, 4, 2] (.two 3 [6, 4] (.two 5 [6] (.one 7 [6] (.one 8 [] (.one 9 [] (.one 11 [] (.fin))))) (.one 7 [6, 4] (.one 5 [6] (.one 8 [] (.one 9 [] (.one 11 [] (.fin))))))) (.one 7 [6, 4, 2] (.one 3 [6, 4] (.one 5 [6] (.one 8 [] (.one 9 [] (.one 11 [] (.fin))))))))))) (.two 7 [6, 4, 2, 0] (.two 1 [6, 4, 2] (.two 3 [6, 4] (.two 5 [6] (.two 8 [] (.two 9 [] (.one 10 [] (.one 11 [] (.fin))) (.one 10 [] (.one 9 [] (.one 11 [] (.fin))))) (.one 10 [6] (.one 8 [] (.one 9 [] (.one 11 [] (.fin)))))) (.one 10 [6, 4] (.one 5 [6] (.one 8 [] (.one 9 [] (.one 11 [] (.fin))))))) (.one 10 [6, 4, 2] (.one 3 [6, 4] (.one 5 [6] (.one 8 [] (.one 9 [] (.one 11 [] (.fin)))))))) (.one 10 [6, 4, 2, 0] (.one 1 [6, 4, 2] (.one 3 [6, 4] (.one 5 [6] (.one 8 [] (.one 9 [] (.one 11 [] (.fin))))))))) (.one 10 [6, 4, 2, 0] (.two 1 [6, 4, 2] (.two 3 [6, 4] (.two 5 [6] (.one 7 [6] (.one 8 [] (.one 9 [] (.one 11 [] (.fin))))) (.one 7 [6, 4] (.one 5 [6] (.one 8 [] (.one 9 [] (.one 11 [] (.fin))))))) (.one 7 [6, 4, 2] (.one 3 [6, 4] (.one 5 [6] (.one 8 [] (.one 9 [] (.one 11 [] (.fin)))))))) (.one 7 [6, 4, 2, 0] (.one 1 [6, 4, 2] (.one 3 [6, 4] (.one 5 [6] (.one 8 [] (.one 9 [] (.one 11 [] (.fin)))))))))))))))), (5, .take 0 (.take 3 (.two 1 [3, 0] (.two 2 [3] (.take 6 (.one 4 [6, 3] (.one 5 [6] (.one 7 [] (.take 8 (.one 9 [] (.fin))))))) (.one 4 [3, 0] (.one 2 [3] (.take 6 (.one 5 [6] (.one 7 [] (.take 8 (.one 9 [] (.fin))))))))) (.one 4 [3, 0] (.one 1 [3, 0] (.one 2 [3] (.take 6 (.one 5 [6] (.one 7 [] (.take 8 (.one 9 [] (.fin)))))))))))), (6, .take 0 (.take 3 (.two 1 [3, 0] (.two 2 [3] (.one 4 [3] (.one 5 [] (.one 6 [] (.one 7 [] (.fin))))) (.one 4 [3, 0] (.one 2 [3] (.one 5 [] (.one 6 [] (.one 7 [] (.fin))))))) (.one 4 [3, 0] (.one 1 [3, 0] (.one 2 [3] (.one 5 [] (.one 6 [] (.one 7 [] (.fin)))))))))), (9, .take 0 (.take 2 (.one 1 [2] (.one 3 [] (.one 4 [] (.one 5 [] (.fin)))))))]
/-- What is read later. -/
def kt_6 : List (Nat × List Nat) := [(0, [0]), (1, [3]), (2, [3, 4]), (3, [3, 5]), (4, [3, 5, 33]), (5, [3, 5]), (6, [5, 6, 7]), (7, [5, 6, 7, 8, 9]), (8, [5, 6, 7, 8, 9, 10, 11]), (9, [5, 6, 7, 8, 9, 10, 11, 12, 13]), (10, [5, 6, 7, 8, 9, 10, 11, 12, 13, 73]), (11, [5, 6, 7, 8, 9, 10, 11, 12, 13]), (12, [5, 6, 7, 8, 9, 10, 11, 12, 13, 83]), (13, [5, 6, 7, 8, 9, 10, 11, 12, 13]), (14, [5, 6, 7, 8, 9, 10, 11, 12, 13, 14, 15]), (15, [5, 6, 7, 8, 9, 10, 11, 12, 13, 14, 15, 85]), (16, [5, 7, 8, 9, 10, 11, 12, 13, 14, 15]), (17, [5, 7, 8, 9, 10, 11, 12, 13, 14, 15, 90]), (18, [8, 9, 10, 11, 12, 13, 14, 16, 17]), (19, [8, 9, 10, 11, 12, 13, 14, 15, 17]), (20, [8, 9, 10, 11, 12, 13, 14, 15, 99]), (21, [8, 9, 10, 11, 12, 13, 14, 15]), (22, [2])]
theorem SampleCosts_spec (ls : List Int) : Spec Try.prog 6 [ints ls] [(none, .bool true)] := by
  have hnp := np_ints ls
  unfold ints at *
  refine spec_of0 (nt := 121) (rs := [.tmp 2]) Try.func6 rfl rfl rfl rfl (by simp) (by simp [np]) (by intro x hx; simp only [List.mem_cons, List.not_mem_nil, or_false] at hx; subst hx; exact hnp) ?_
  clear hnp
  refine PW.sregN kt_6 [] (fun K hK => ?_)
  repeat' first
    | exact True.intro
    | refine runQ_step (fun K hK => ?_)
    | refine runQ_end ?_
    | simp only [push_cast, ↓reduceIte, Nat.reduceAdd, Nat.reduceSub, Nat.reduceMul, Nat.reduceEqDiff, Nat.reduceLT, Nat.reduceLeDiff, Int.reduceToNat, reduceCtorEq, Int.reduceEq, Int.reduceLT, Int.reduceLE, Int.reduceAdd, Int.reduceSub, Int.reduceMul, Int.reduceNeg, MV.top, kt_6, ti1, ti2, ti3, ti4, ti5, ti6, ti7, ti8, ti9, ti22, ti23, ti25, ti30, ti32, ti49, ti51, eqt7, eqt8, eqt30, eqt51, strm]
    | refine And.intro ?_ ?_
    | (refine hK _ ?_; clear hK K)
    | (refine hK _ ?_ ?_ <;> clear hK K)
    | apply_assumption (exfalso := false) (symm := false) only [*]
    | refine runQ_gC rfl (fun K hK => ?_)
    | refine runQ_gS rfl rfl ?_
    | refine runQ_gU rfl rfl ?_
    | (refine runQ_gT rfl (fun hc K hK => ?_) (fun hc => ?_) <;> first | (exfalso; omega) | skip)
    | (refine runQ_gF rfl (fun hc K hK => ?_) (fun hc => ?_) <;> first | (exfalso; omega) | skip)
    | refine runQ_guard rfl (fun hc K hK => ?_) (fun hc => ?_)
    | refine DrG.take rfl rfl rfl (by kernel_rfl) rfl (fun K hK => ?_)
    | refine DrG.one rfl rfl (by kernel_rfl) (by kernel_rfl) (by kernel_rfl) (fun K hK => ?_)
    | refine DrG.fin rfl (by kernel_rfl) (by kernel_rfl) ?_
    | refine Still.ofR rfl rfl rfl (by kernel_rfl) rfl (fun K hK => ?_)
    | refine DrG.alt rfl (by kernel_rfl) (by kernel_rfl) ?_
    | refine DrH.two rfl rfl (by kernel_rfl) (fun K hK => ?_) ?_
    | refine DrH.one rfl rfl (by kernel_rfl) (fun K hK => ?_)
    | refine PW.ret ?_
    | refine PW.skip ?_
    | refine PW.exit ?_
    | refine PW.block ?_
    | refine PW.condT rfl ?_
    | refine PW.condF rfl ?_
    | (refine PW.condD rfl (fun hc => ?_) (fun hc => ?_) <;> first | (exfalso; omega) | skip)
    | (refine PW.condN rfl (fun hc => ?_) (fun hc => ?_) <;> first | (exfalso; omega) | skip)
    | refine PW.cond rfl (fun hc => ?_) (fun hc => ?_)
    | refine PW.regQ [] ?_
    | refine PW.drawG sc_6 [] hmix (by kernel_rfl) (fun K hK => ?_)
    | refine PW.label ?_
    | omega
    | (split <;> first | contradiction | skip)
  refine PW.sregN kt_6 [] (fun K hK => ?_)
  repeat' first
    | exact True.intro
    | refine runQ_step (fun K hK => ?_)
    | refine runQ_end ?_
    | simp only [push_cast, ↓reduceIte, Nat.reduceAdd, Nat.reduceSub, Nat.reduceMul, Nat.reduceEqDiff, Nat.reduceLT, Nat.reduceLeDiff, Int.reduceToNat, reduceCtorEq, Int.reduceEq, Int.reduceLT, Int.reduceLE, Int.reduceAdd, Int.reduceSub, Int.reduceMul, Int.reduceNeg, MV.top, kt_6, ti1, ti2, ti3, ti4, ti5, ti6, ti7, ti8, ti9, ti22, ti23, ti25, ti30, ti32, ti49, ti51, eqt7, eqt8, eqt30, eqt51, strm]
    | refine And.intro ?_ ?_
    | (refine hK _ ?_; clear hK K)
    | (refine hK _ ?_ ?_ <;> clear hK K)
    | apply_assumption (exfalso := false) (symm := false) only [*]
    | refine runQ_gC rfl (fun K hK => ?_)
    | refine runQ_gS rfl rfl ?_
    | refine runQ_gU rfl rfl ?_
    | (refine runQ_gT rfl (fun hc K hK => ?_) (fun hc => ?_) <;> first | (exfalso; omega) | skip)
    | (refine runQ_gF rfl (fun hc K hK => ?_) (fun hc => ?_) <;> first | (exfalso; omega) | skip)
    | refine runQ_guard rfl (fun hc K hK => ?_) (fun hc => ?_)
    | refine DrG.take rfl rfl rfl (by kernel_rfl) rfl (fun K hK => ?_)
    | refine DrG.one rfl rfl (by kernel_rfl) (by kernel_rfl) (by kernel_rfl) (fun K hK => ?_)
    | refine DrG.fin rfl (by kernel_rfl) (by kernel_rfl) ?_
    | refine Still.ofR rfl rfl rfl (by kernel_rfl) rfl (fun K hK => ?_)
    | refine DrG.alt rfl (by kernel_rfl) (by kernel_rfl) ?_
    | refine DrH.two rfl rfl (by kernel_rfl) (fun K hK => ?_) ?_
    | refine DrH.one rfl rfl (by kernel_rfl) (fun K hK => ?_)
    | refine PW.ret ?_
    | refine PW.skip ?_
    | refine PW.exit ?_
    | refine PW.block ?_
    | refine PW.condT rfl ?_
    | refine PW.condF rfl ?_
    | (refine PW.condD rfl (fun hc => ?_) (fun hc => ?_) <;> first | (exfalso; omega) | skip)
    | (refine PW.condN rfl (fun hc => ?_) (fun hc => ?_) <;> first | (exfalso; omega) | skip)
    | refine PW.cond rfl (fun hc => ?_) (fun hc => ?_)
    | refine PW.regQ [] ?_
    | refine PW.drawG sc_6 [] hmix (by kernel_rfl) (fun K hK => ?_)
    | refine PW.label ?_
    | omega
    | (split <;> first | contradiction | skip)
  refine PW.sregN kt_6 [] (fun K hK => ?_)
  repeat' first
    | exact True.intro
    | refine runQ_step (fun K hK => ?_)
    | refine runQ_end ?_
    | simp only [push_cast, ↓reduceIte, Nat.reduceAdd, Nat.reduceSub, Nat.reduceMul, Nat.reduceEqDiff, Nat.reduceLT, Nat.reduceLeDiff, Int.reduceToNat, reduceCtorEq, Int.reduceEq, Int.reduceLT, Int.reduceLE, Int.reduceAdd, Int.reduceSub, Int.reduceMul, Int.reduceNeg, MV.top, kt_6, ti1, ti2, ti3, ti4, ti5, ti6, ti7, ti8, ti9, ti22, ti23, ti25, ti30, ti32, ti49, ti51, eqt7, eqt8, eqt30, eqt51, strm]
    | refine And.intro ?_ ?_
    | (refine hK _ ?_; clear hK K)
    | (refine hK _ ?_ ?_ <;> clear hK K)
    | apply_assumption (exfalso := false) (symm := false) only [*]
    | refine runQ_gC rfl (fun K hK => ?_)
    | refine runQ_gS rfl rfl ?_
    | refine runQ_gU rfl rfl ?_
    | (refine runQ_gT rfl (fun hc K hK => ?_) (fun hc => ?_) <;> first | (exfalso; omega) | skip)
    | (refine runQ_gF rfl (fun hc K hK => ?_) (fun hc => ?_) <;> first | (exfalso; omega) | skip)
    | refine runQ_guard rfl (fun hc K hK => ?_) (fun hc => ?_)
    | refine DrG.take rfl rfl rfl (by kernel_rfl) rfl (fun K hK => ?_)
    | refine DrG.one rfl rfl (by kernel_rfl) (by kernel_rfl) (by kernel_rfl) (fun K hK => ?_)
    | refine DrG.fin rfl (by kernel_rfl) (by kernel_rfl) ?_
    | refine Still.ofR rfl rfl rfl (by kernel_rfl) rfl (fun K hK => ?_)
    | refine DrG.alt rfl (by kernel_rfl) (by kernel_rfl) ?_
    | refine DrH.two rfl rfl (by kernel_rfl) (fun K hK => ?_) ?_
    | refine DrH.one rfl rfl (by kernel_rfl) (fun K hK => ?_)
    | refine PW.ret ?_
    | refine PW.skip ?_
    | refine PW.exit ?_
    | refine PW.block ?_
    | refine PW.condT rfl ?_
    | refine PW.condF rfl ?_
    | (refine PW.condD rfl (fun hc => ?_) (fun hc => ?_) <;> first | (exfalso; omega) | skip)
    | (refine PW.condN rfl (fun hc => ?_) (fun hc => ?_) <;> first | (exfalso; omega) | skip)
    | refine PW.cond rfl (fun hc => ?_) (fun hc => ?_)
    | refine PW.regQ [] ?_
    | refine PW.drawG sc_6 [] hmix (by kernel_rfl) (fun K hK => ?_)
    | refine PW.label ?_
    | omega
    | (split <;> first | contradiction | skip)
  refine PW.cutE [3, 5] (fun q : Int × Int × Int × Int => ⟨[(3, .sh (.ptr 1 0)), (5, .sh (.ptr 2 0))], [strm ls 4, some [.sh (.ptr 0 0)], some [.sh (.int .i64 q.1), .sh (.int .i64 q.2.1), .sh (.int .i64 q.2.2.1), .sh (.int .i64 q.2.2.2)]]⟩) (fun _ => True) ?_ (fun q _ => ?_)
  · skip
    repeat' first
      | exact True.intro
      | refine runQ_step (fun K hK => ?_)
      | refine runQ_end ?_
      | refine PW.sregN kt_6 [] (fun K hK => ?_)
      | simp only [push_cast, ↓reduceIte, Nat.reduceAdd, Nat.reduceSub, Nat.reduceMul, Nat.reduceEqDiff, Nat.reduceLT, Nat.reduceLeDiff, Int.reduceToNat, reduceCtorEq, Int.reduceEq, Int.reduceLT, Int.reduceLE, Int.reduceAdd, Int.reduceSub, Int.reduceMul, Int.reduceNeg, MV.top, kt_6, ti1, ti2, ti3, ti4, ti5, ti6, ti7, ti8, ti9, ti22, ti23, ti25, ti30, ti32, ti49, ti51, eqt7, eqt8, eqt30, eqt51, strm]
      | refine And.intro ?_ ?_
      | (refine hK _ ?_; clear hK K)
      | (refine hK _ ?_ ?_ <;> clear hK K)
      | apply_assumption (exfalso := false) (symm := false) only [*]
      | refine runQ_gC rfl (fun K hK => ?_)
      | refine runQ_gS rfl rfl ?_
      | refine runQ_gU rfl rfl ?_
      | (refine runQ_gT rfl (fun hc K hK => ?_) (fun hc => ?_) <;> first | (exfalso; omega) | skip)
      | (refine runQ_gF rfl (fun hc K hK => ?_) (fun hc => ?_) <;> first | (exfalso; omega) | skip)
      | refine runQ_guard rfl (fun hc K hK => ?_) (fun hc => ?_)
      | refine DrG.take rfl rfl rfl (by kernel_rfl) rfl (fun K hK => ?_)
      | refine DrG.one rfl rfl (by kernel_rfl) (by kernel_rfl) (by kernel_rfl) (fun K hK => ?_)
      | refine DrG.fin rfl (by kernel_rfl) (by kernel_rfl) ?_
      | refine Still.ofR rfl rfl rfl (by kernel_rfl) rfl (fun K hK => ?_)
      | refine DrG.alt rfl (by kernel_rfl) (by kernel_rfl) ?_
      | refine DrH.two rfl rfl (by kernel_rfl) (fun K hK => ?_) ?_
      | refine DrH.one rfl rfl (by kernel_rfl) (fun K hK => ?_)
      | refine calP_box rfl rfl (costs1_spec (k := 0) (ls := ls) rfl rfl (by omega) (by omega)) ?_
      | refine calP_box rfl rfl (Pick_spec (ls := ls) [0, 1, 4, 10, 1000000] rfl (by omega) (by omega) (by simp) (by simp)) ?_
      | refine PW.seq (fun K hK => ?_)
      | refine PW.ret ?_
      | refine PW.skip ?_
      | refine PW.exit ?_
      | refine PW.block ?_
      | refine PW.condT rfl ?_
      | refine PW.condF rfl ?_
      | (refine PW.condD rfl (fun hc => ?_) (fun hc => ?_) <;> first | (exfalso; omega) | skip)
      | (refine PW.condN rfl (fun hc => ?_) (fun hc => ?_) <;> first | (exfalso; omega) | skip)
      | refine PW.cond rfl (fun hc => ?_) (fun hc => ?_)
      | refine PW.regQ [] ?_
      | refine PW.sdrawG kt_6 sc_6 [] hmix (by kernel_rfl) (fun K hK => ?_)
      | refine PW.drawG sc_6 [] hmix (by kernel_rfl) (fun K hK => ?_)
      | refine PW.label ?_
      | omega
      | (split <;> first | contradiction | skip)
    all_goals exact ⟨(_, _, _, _), rfl⟩
  obtain ⟨o, r0, s, e0⟩ := q
  simp only
  refine PW.cutE [3, 5] (fun q : Int × Int × Int => ⟨[(3, .sh (.ptr 1 0)), (5, .sh (.ptr 2 0))], [strm ls q.2.2, some [.sh (.ptr 0 0)], some [.sh (.int .i64 o), .sh (.int .i64 q.1), .sh (.int .i64 s), .sh (.int .i64 q.2.1)]]⟩) (fun q => 0 ≤ q.2.2 ∧ q.2.2 < 1000) ?_ (fun q hq => ?_)
  · skip
    repeat' first
      | exact True.intro
      | refine runQ_step (fun K hK => ?_)
      | refine runQ_end ?_
      | refine PW.sregN kt_6 [] (fun K hK => ?_)
      | simp only [push_cast, ↓reduceIte, Nat.reduceAdd, Nat.reduceSub, Nat.reduceMul, Nat.reduceEqDiff, Nat.reduceLT, Nat.reduceLeDiff, Int.reduceToNat, reduceCtorEq, Int.reduceEq, Int.reduceLT, Int.reduceLE, Int.reduceAdd, Int.reduceSub, Int.reduceMul, Int.reduceNeg, MV.top, kt_6, ti1, ti2, ti3, ti4, ti5, ti6, ti7, ti8, ti9, ti22, ti23, ti25, ti30, ti32, ti49, ti51, eqt7, eqt8, eqt30, eqt51, strm]
      | refine And.intro ?_ ?_
      | (refine hK _ ?_; clear hK K)
      | (refine hK _ ?_ ?_ <;> clear hK K)
      | apply_assumption (exfalso := false) (symm := false) only [*]
      | refine runQ_gC rfl (fun K hK => ?_)
      | refine runQ_gS rfl rfl ?_
      | refine runQ_gU rfl rfl ?_
      | (refine runQ_gT rfl (fun hc K hK => ?_) (fun hc => ?_) <;> first | (exfalso; omega) | skip)
      | (refine runQ_gF rfl (fun hc K hK => ?_) (fun hc => ?_) <;> first | (exfalso; omega) | skip)
      | refine runQ_guard rfl (fun hc K hK => ?_) (fun hc => ?_)
      | refine DrG.take rfl rfl rfl (by kernel_rfl) rfl (fun K hK => ?_)
      | refine DrG.one rfl rfl (by kernel_rfl) (by kernel_rfl) (by kernel_rfl) (fun K hK => ?_)
      | refine DrG.fin rfl (by kernel_rfl) (by kernel_rfl) ?_
      | refine Still.ofR rfl rfl rfl (by kernel_rfl) rfl (fun K hK => ?_)
      | refine DrG.alt rfl (by kernel_rfl) (by kernel_rfl) ?_
      | refine DrH.two rfl rfl (by kernel_rfl) (fun K hK => ?_) ?_
      | refine DrH.one rfl rfl (by kernel_rfl) (fun K hK => ?_)
      | refine calP_box rfl rfl (Flip_spec (k := 0) (ls := ls) 12 rfl (by omega) (by omega)) ?_
      | refine calP_box rfl rfl (Pick_spec (k := 0) (ls := ls) [-1, 1000000001, 5] rfl (by omega) (by omega) (by simp) (by simp)) ?_
      | refine calP_box rfl rfl (Pick_spec (k := 0) (ls := ls) [-1, 1000001, 3] rfl (by omega) (by omega) (by simp) (by simp)) ?_
      | refine PW.seq (fun K hK => ?_)
      | refine PW.ret ?_
      | refine PW.skip ?_
      | refine PW.exit ?_
      | refine PW.block ?_
      | refine PW.condT rfl ?_
      | refine PW.condF rfl ?_
      | (refine PW.condD rfl (fun hc => ?_) (fun hc => ?_) <;> first | (exfalso; omega) | skip)
      | (refine PW.condN rfl (fun hc => ?_) (fun hc => ?_) <;> first | (exfalso; omega) | skip)
      | refine PW.cond rfl (fun hc => ?_) (fun hc => ?_)
      | refine PW.regQ [] ?_
      | refine PW.sdrawG kt_6 sc_6 [] hmix (by kernel_rfl) (fun K hK => ?_)
      | refine PW.drawG sc_6 [] hmix (by kernel_rfl) (fun K hK => ?_)
      | refine PW.label ?_
      | omega
      | (split <;> first | contradiction | skip)
    all_goals exact ⟨(_, _, _), rfl, by constructor <;> dsimp only <;> omega⟩
  obtain ⟨r, e, at_⟩ := q
  obtain ⟨ha1, ha2⟩ := hq
  simp only at ha1 ha2 ⊢
  refine PW.cutE [5, 6, 7] (fun q : Int × Int × Int => ⟨[(5, .sh (.ptr 2 0)), (6, .sh (.int .i64 q.1)), (7, .sh (.int .i64 q.2.1))], [strm ls q.2.2, some [.sh (.ptr 0 0)], some [.sh (.int .i64 o), .sh (.int .i64 r), .sh (.int .i64 s), .sh (.int .i64 e)]]⟩) (fun _ => True) ?_ (fun q _ => ?_)
  · skip
    repeat' first
      | exact True.intro
      | refine runQ_step (fun K hK => ?_)
      | refine runQ_end ?_
      | refine PW.sregN kt_6 [] (fun K hK => ?_)
      | simp only [push_cast, ↓reduceIte, Nat.reduceAdd, Nat.reduceSub, Nat.reduceMul, Nat.reduceEqDiff, Nat.reduceLT, Nat.reduceLeDiff, Int.reduceToNat, reduceCtorEq, Int.reduceEq, Int.reduceLT, Int.reduceLE, Int.reduceAdd, Int.reduceSub, Int.reduceMul, Int.reduceNeg, MV.top, kt_6, ti1, ti2, ti3, ti4, ti5, ti6, ti7, ti8, ti9, ti22, ti23, ti25, ti30, ti32, ti49, ti51, eqt7, eqt8, eqt30, eqt51, strm]
      | refine And.intro ?_ ?_
      | (refine hK _ ?_; clear hK K)
      | (refine hK _ ?_ ?_ <;> clear hK K)
      | apply_assumption (exfalso := false) (symm := false) only [*]
      | refine runQ_gC rfl (fun K hK => ?_)
      | refine runQ_gS rfl rfl ?_
      | refine runQ_gU rfl rfl ?_
      | (refine runQ_gT rfl (fun hc K hK => ?_) (fun hc => ?_) <;> first | (exfalso; omega) | skip)
      | (refine runQ_gF rfl (fun hc K hK => ?_) (fun hc => ?_) <;> first | (exfalso; omega) | skip)
      | refine runQ_guard rfl (fun hc K hK => ?_) (fun hc => ?_)
      | refine DrG.take rfl rfl rfl (by kernel_rfl) rfl (fun K hK => ?_)
      | refine DrG.one rfl rfl (by kernel_rfl) (by kernel_rfl) (by kernel_rfl) (fun K hK => ?_)
      | refine DrG.fin rfl (by kernel_rfl) (by kernel_rfl) ?_
      | refine Still.ofR rfl rfl rfl (by kernel_rfl) rfl (fun K hK => ?_)
      | refine DrG.alt rfl (by kernel_rfl) (by kernel_rfl) ?_
      | refine DrH.two rfl rfl (by kernel_rfl) (fun K hK => ?_) ?_
      | refine DrH.one rfl rfl (by kernel_rfl) (fun K hK => ?_)
      | refine calP_box rfl rfl (Pick_spec (k := 0) (ls := ls) [0, 1, 9, 100, 1000000, -1, 1000001] rfl (by omega) (by omega) (by simp) (by simp)) ?_
      | refine calP_box rfl rfl (Pick_spec (k := 0) (ls := ls) [0, 10, 999, 5000, 123456, 1000000000, 10000000000000000, -1, 10000000000000001] rfl (by omega) (by omega) (by simp) (by simp)) ?_
      | refine PW.seq (fun K hK => ?_)
      | refine PW.ret ?_
      | refine PW.skip ?_
      | refine PW.exit ?_
      | refine PW.block ?_
      | refine PW.condT rfl ?_
      | refine PW.condF rfl ?_
      | (refine PW.condD rfl (fun hc => ?_) (fun hc => ?_) <;> first | (exfalso; omega) | skip)
      | (refine PW.condN rfl (fun hc => ?_) (fun hc => ?_) <;> first | (exfalso; omega) | skip)
      | refine PW.cond rfl (fun hc => ?_) (fun hc => ?_)
      | refine PW.regQ [] ?_
      | refine PW.sdrawG kt_6 sc_6 [] hmix (by kernel_rfl) (fun K hK => ?_)
      | refine PW.drawG sc_6 [] hmix (by kernel_rfl) (fun K hK => ?_)
      | refine PW.label ?_
      | omega
      | (split <;> first | contradiction | skip)
    all_goals exact ⟨(_, _, _), rfl⟩
  obtain ⟨n, c, at2⟩ := q
  simp only
  generalize strm ls at2 = bx
  clear ha1 ha2
  have e1 := Cost_spec o r s e n
  have e2 := CostsFault_spec o r s e
  have ed := drawn_spec
  cases q1 : rulesOk o r s e with
  | false =>
    have h1 : costE o r s e n = 1 := by simp [costE, q1]
    have h2 : affordE o r s e c = 1 := by simp [affordE, q1, whenV, firstV]
    have e3 := Afford_bad o r s e c (by rw [h2]; decide)
    rw [h1] at e1
    rw [q1] at e2
    rw [h2] at e3
    unfold rulesM at e1 e2 e3
    repeat' first
      | exact True.intro
      | refine runQ_step (fun K hK => ?_)
      | refine runQ_end ?_
      | refine PW.sregN kt_6 [] (fun K hK => ?_)
      | simp only [push_cast, ↓reduceIte, Nat.reduceAdd, Nat.reduceSub, Nat.reduceMul, Nat.reduceEqDiff, Nat.reduceLT, Nat.reduceLeDiff, Int.reduceToNat, reduceCtorEq, Int.reduceEq, Int.reduceLT, Int.reduceLE, Int.reduceAdd, Int.reduceSub, Int.reduceMul, Int.reduceNeg, MV.top, kt_6, ti1, ti2, ti3, ti4, ti5, ti6, ti7, ti8, ti9, ti22, ti23, ti25, ti30, ti32, ti49, ti51, eqt7, eqt8, eqt30, eqt51, whenV]
      | refine And.intro ?_ ?_
      | (refine hK _ ?_; clear hK K)
      | (refine hK _ ?_ ?_ <;> clear hK K)
      | apply_assumption (exfalso := false) (symm := false) only [*]
      | refine runQ_gC rfl (fun K hK => ?_)
      | refine runQ_gS rfl rfl ?_
      | refine runQ_gU rfl rfl ?_
      | (refine runQ_gT rfl (fun hc K hK => ?_) (fun hc => ?_) <;> first | (exfalso; omega) | skip)
      | (refine runQ_gF rfl (fun hc K hK => ?_) (fun hc => ?_) <;> first | (exfalso; omega) | skip)
      | refine runQ_guard rfl (fun hc K hK => ?_) (fun hc => ?_)
      | refine DrG.take rfl rfl rfl (by kernel_rfl) rfl (fun K hK => ?_)
      | refine DrG.one rfl rfl (by kernel_rfl) (by kernel_rfl) (by kernel_rfl) (fun K hK => ?_)
      | refine DrG.fin rfl (by kernel_rfl) (by kernel_rfl) ?_
      | refine Still.ofR rfl rfl rfl (by kernel_rfl) rfl (fun K hK => ?_)
      | refine DrG.alt rfl (by kernel_rfl) (by kernel_rfl) ?_
      | refine DrH.two rfl rfl (by kernel_rfl) (fun K hK => ?_) ?_
      | refine DrH.one rfl rfl (by kernel_rfl) (fun K hK => ?_)
      | refine calP_lent rfl rfl e1 rfl ?_
      | refine calP_lent rfl rfl e2 rfl ?_
      | refine calP_lent rfl rfl e3 rfl ?_
      | refine calP_lent rfl rfl ed rfl ?_
      | refine PW.seq (fun K hK => ?_)
      | refine PW.ret ?_
      | refine PW.skip ?_
      | refine PW.exit ?_
      | refine PW.block ?_
      | refine PW.condT rfl ?_
      | refine PW.condF rfl ?_
      | (refine PW.condD rfl (fun hc => ?_) (fun hc => ?_) <;> first | (exfalso; omega) | skip)
      | (refine PW.condN rfl (fun hc => ?_) (fun hc => ?_) <;> first | (exfalso; omega) | skip)
      | refine PW.cond rfl (fun hc => ?_) (fun hc => ?_)
      | refine PW.regQ [] ?_
      | refine PW.sdrawG kt_6 sc_6 [] hmix (by kernel_rfl) (fun K hK => ?_)
      | refine PW.drawG sc_6 [] hmix (by kernel_rfl) (fun K hK => ?_)
      | refine PW.label ?_
      | omega
      | (split <;> first | contradiction | skip)
  | true =>
    rw [q1] at e2
    have hb := rules_bd q1
    obtain ⟨t, t1, t2, t3, t4⟩ := cost_cut (c := c) q1
    have e6 := AffordOf_spec o r s e c t q1 t1 t2 t3 t4
    have ht0 : c < o → t = 0 := by
      intro h
      by_cases h0 : t = 0
      · exact h0
      · have := t3 0 (by omega) (by omega)
        rw [cost_zero] at this
        simp at this; omega
    have ht1 : ¬ c < o → 1 ≤ t := by
      intro h
      by_cases h0 : t = 0
      · have := t4 0 (by omega) (by omega)
        rw [cost_zero] at this
        simp at this; omega
      · omega
    have hn : (inV n 0 1000000 = true ∧ ¬ n < 0 ∧ ¬ 1000000 < n) ∨ (inV n 0 1000000 = false ∧ n < 0) ∨ (inV n 0 1000000 = false ∧ ¬ n < 0 ∧ 1000000 < n) := by
      unfold inV
      by_cases g : 0 ≤ n ∧ n ≤ 1000000
      · left; simp [g]
      · simp only [g, decide_false, Bool.false_eq_true, false_and, true_and, false_or]; omega
    have hc : (inV c 0 10000000000000000 = true ∧ ¬ c < 0 ∧ ¬ 10000000000000000 < c) ∨ (inV c 0 10000000000000000 = false ∧ c < 0) ∨ (inV c 0 10000000000000000 = false ∧ ¬ c < 0 ∧ 10000000000000000 < c) := by
      unfold inV
      by_cases g : 0 ≤ c ∧ c ≤ 10000000000000000
      · left; simp [g]
      · simp only [g, decide_false, Bool.false_eq_true, false_and, true_and, false_or]; omega
    rcases hc with ⟨qc, c1, c2⟩ | ⟨qc, c1⟩ | ⟨qc, c1, c2⟩
    · by_cases co : c < o
      · have h2 : affordE o r s e c = 16 := by simp [affordE, q1, qc, co, whenV, firstV]
        have e3 := Afford_bad o r s e c (by rw [h2]; decide)
        rw [h2] at e3
        rw [ht0 co] at e6
        have m0 : mm2 true 0 (0 - 1) = 0 := by decide
        have d0 : decide ((0 : Int) ≤ 0 - 1) = false := by decide
        rw [m0, d0] at e6
        clear t3 t4 ht0 ht1 t1 t2 h2
        rcases hn with ⟨qn, n1, n2⟩ | ⟨qn, n1⟩ | ⟨qn, n1, n2⟩
        · have h1 : costE o r s e n = 0 := by simp [costE, q1, qn]
          have e4 := CostOf_spec o r s e n q1 (by omega) (by omega)
          rw [h1] at e1
          generalize costV o r s e n = x at e1 e4
          unfold rulesM at *
          repeat' first
            | exact True.intro
            | refine runQ_step (fun K hK => ?_)
            | refine runQ_end ?_
            | refine PW.sregN kt_6 [] (fun K hK => ?_)
            | simp only [push_cast, ↓reduceIte, Nat.reduceAdd, Nat.reduceSub, Nat.reduceMul, Nat.reduceEqDiff, Nat.reduceLT, Nat.reduceLeDiff, Int.reduceToNat, reduceCtorEq, Int.reduceEq, Int.reduceLT, Int.reduceLE, Int.reduceAdd, Int.reduceSub, Int.reduceMul, Int.reduceNeg, MV.top, kt_6, ti1, ti2, ti3, ti4, ti5, ti6, ti7, ti8, ti9, ti22, ti23, ti25, ti30, ti32, ti49, ti51, eqt7, eqt8, eqt30, eqt51, whenV, n1, n2, c1, c2]
            | refine And.intro ?_ ?_
            | (refine hK _ ?_; clear hK K)
            | (refine hK _ ?_ ?_ <;> clear hK K)
            | apply_assumption (exfalso := false) (symm := false) only [*]
            | refine runQ_gC rfl (fun K hK => ?_)
            | refine runQ_gS rfl rfl ?_
            | refine runQ_gU rfl rfl ?_
            | (refine runQ_gT rfl (fun hc K hK => ?_) (fun hc => ?_) <;> first | (exfalso; omega) | skip)
            | (refine runQ_gF rfl (fun hc K hK => ?_) (fun hc => ?_) <;> first | (exfalso; omega) | skip)
            | refine runQ_guard rfl (fun hc K hK => ?_) (fun hc => ?_)
            | refine DrG.take rfl rfl rfl (by kernel_rfl) rfl (fun K hK => ?_)
            | refine DrG.one rfl rfl (by kernel_rfl) (by kernel_rfl) (by kernel_rfl) (fun K hK => ?_)
            | refine DrG.fin rfl (by kernel_rfl) (by kernel_rfl) ?_
            | refine Still.ofR rfl rfl rfl (by kernel_rfl) rfl (fun K hK => ?_)
            | refine DrG.alt rfl (by kernel_rfl) (by kernel_rfl) ?_
            | refine DrH.two rfl rfl (by kernel_rfl) (fun K hK => ?_) ?_
            | refine DrH.one rfl rfl (by kernel_rfl) (fun K hK => ?_)
            | refine calP_lent rfl rfl e1 rfl ?_
            | refine calP_lent rfl rfl e2 rfl ?_
            | refine calP_lent rfl rfl e3 rfl ?_
            | refine calP_lent rfl rfl ed rfl ?_
            | refine calP_lent rfl rfl e4 rfl ?_
            | refine calP_lent rfl rfl e6 rfl ?_
            | refine PW.seq (fun K hK => ?_)
            | refine PW.ret ?_
            | refine PW.skip ?_
            | refine PW.exit ?_
            | refine PW.block ?_
            | refine PW.condT rfl ?_
            | refine PW.condF rfl ?_
            | (refine PW.condD rfl (fun hc => ?_) (fun hc => ?_) <;> first | (exfalso; omega) | skip)
            | (refine PW.condN rfl (fun hc => ?_) (fun hc => ?_) <;> first | (exfalso; omega) | skip)
            | refine PW.cond rfl (fun hc => ?_) (fun hc => ?_)
            | refine PW.regQ [] ?_
            | refine PW.sdrawG kt_6 sc_6 [] hmix (by kernel_rfl) (fun K hK => ?_)
            | refine PW.drawG sc_6 [] hmix (by kernel_rfl) (fun K hK => ?_)
            | refine PW.label ?_
            | omega
            | (split <;> first | contradiction | skip)
        · have h1 : costE o r s e n = 1 := by simp [costE, q1, qn]
          rw [h1] at e1
          unfold rulesM at *
          repeat' first
            | exact True.intro
            | refine runQ_step (fun K hK => ?_)
            | refine runQ_end ?_
            | refine PW.sregN kt_6 [] (fun K hK => ?_)
            | simp only [push_cast, ↓reduceIte, Nat.reduceAdd, Nat.reduceSub, Nat.reduceMul, Nat.reduceEqDiff, Nat.reduceLT, Nat.reduceLeDiff, Int.reduceToNat, reduceCtorEq, Int.reduceEq, Int.reduceLT, Int.reduceLE, Int.reduceAdd, Int.reduceSub, Int.reduceMul, Int.reduceNeg, MV.top, kt_6, ti1, ti2, ti3, ti4, ti5, ti6, ti7, ti8, ti9, ti22, ti23, ti25, ti30, ti32, ti49, ti51, eqt7, eqt8, eqt30, eqt51, whenV, n1, c1, c2]
            | refine And.intro ?_ ?_
            | (refine hK _ ?_; clear hK K)
            | (refine hK _ ?_ ?_ <;> clear hK K)
            | apply_assumption (exfalso := false) (symm := false) only [*]
            | refine runQ_gC rfl (fun K hK => ?_)
            | refine runQ_gS rfl rfl ?_
            | refine runQ_gU rfl rfl ?_
            | (refine runQ_gT rfl (fun hc K hK => ?_) (fun hc => ?_) <;> first | (exfalso; omega) | skip)
            | (refine runQ_gF rfl (fun hc K hK => ?_) (fun hc => ?_) <;> first | (exfalso; omega) | skip)
            | refine runQ_guard rfl (fun hc K hK => ?_) (fun hc => ?_)
            | refine DrG.take rfl rfl rfl (by kernel_rfl) rfl (fun K hK => ?_)
            | refine DrG.one rfl rfl (by kernel_rfl) (by kernel_rfl) (by kernel_rfl) (fun K hK => ?_)
            | refine DrG.fin rfl (by kernel_rfl) (by kernel_rfl) ?_
            | refine Still.ofR rfl rfl rfl (by kernel_rfl) rfl (fun K hK => ?_)
            | refine DrG.alt rfl (by kernel_rfl) (by kernel_rfl) ?_
            | refine DrH.two rfl rfl (by kernel_rfl) (fun K hK => ?_) ?_
            | refine DrH.one rfl rfl (by kernel_rfl) (fun K hK => ?_)
            | refine calP_lent rfl rfl e1 rfl ?_
            | refine calP_lent rfl rfl e2 rfl ?_
            | refine calP_lent rfl rfl e3 rfl ?_
            | refine calP_lent rfl rfl ed rfl ?_
            | refine calP_lent rfl rfl e6 rfl ?_
            | refine PW.seq (fun K hK => ?_)
            | refine PW.ret ?_
            | refine PW.skip ?_
            | refine PW.exit ?_
            | refine PW.block ?_
            | refine PW.condT rfl ?_
            | refine PW.condF rfl ?_
            | (refine PW.condD rfl (fun hc => ?_) (fun hc => ?_) <;> first | (exfalso; omega) | skip)
            | (refine PW.condN rfl (fun hc => ?_) (fun hc => ?_) <;> first | (exfalso; omega) | skip)
            | refine PW.cond rfl (fun hc => ?_) (fun hc => ?_)
            | refine PW.regQ [] ?_
            | refine PW.sdrawG kt_6 sc_6 [] hmix (by kernel_rfl) (fun K hK => ?_)
            | refine PW.drawG sc_6 [] hmix (by kernel_rfl) (fun K hK => ?_)
            | refine PW.label ?_
            | omega
            | (split <;> first | contradiction | skip)
        · have h1 : costE o r s e n = 1 := by simp [costE, q1, qn]
          rw [h1] at e1
          unfold rulesM at *
          repeat' first
            | exact True.intro
            | refine runQ_step (fun K hK => ?_)
            | refine runQ_end ?_
            | refine PW.sregN kt_6 [] (fun K hK => ?_)
            | simp only [push_cast, ↓reduceIte, Nat.reduceAdd, Nat.reduceSub, Nat.reduceMul, Nat.reduceEqDiff, Nat.reduceLT, Nat.reduceLeDiff, Int.reduceToNat, reduceCtorEq, Int.reduceEq, Int.reduceLT, Int.reduceLE, Int.reduceAdd, Int.reduceSub, Int.reduceMul, Int.reduceNeg, MV.top, kt_6, ti1, ti2, ti3, ti4, ti5, ti6, ti7, ti8, ti9, ti22, ti23, ti25, ti30, ti32, ti49, ti51, eqt7, eqt8, eqt30, eqt51, whenV, n1, n2, c1, c2]
            | refine And.intro ?_ ?_
            | (refine hK _ ?_; clear hK K)
            | (refine hK _ ?_ ?_ <;> clear hK K)
            | apply_assumption (exfalso := false) (symm := false) only [*]
            | refine runQ_gC rfl (fun K hK => ?_)
            | refine runQ_gS rfl rfl ?_
            | refine runQ_gU rfl rfl ?_
            | (refine runQ_gT rfl (fun hc K hK => ?_) (fun hc => ?_) <;> first | (exfalso; omega) | skip)
            | (refine runQ_gF rfl (fun hc K hK => ?_) (fun hc => ?_) <;> first | (exfalso; omega) | skip)
            | refine runQ_guard rfl (fun hc K hK => ?_) (fun hc => ?_)
            | refine DrG.take rfl rfl rfl (by kernel_rfl) rfl (fun K hK => ?_)
            | refine DrG.one rfl rfl (by kernel_rfl) (by kernel_rfl) (by kernel_rfl) (fun K hK => ?_)
            | refine DrG.fin rfl (by kernel_rfl) (by kernel_rfl) ?_
            | refine Still.ofR rfl rfl rfl (by kernel_rfl) rfl (fun K hK => ?_)
            | refine DrG.alt rfl (by kernel_rfl) (by kernel_rfl) ?_
            | refine DrH.two rfl rfl (by kernel_rfl) (fun K hK => ?_) ?_
            | refine DrH.one rfl rfl (by kernel_rfl) (fun K hK => ?_)
            | refine calP_lent rfl rfl e1 rfl ?_
            | refine calP_lent rfl rfl e2 rfl ?_
            | refine calP_lent rfl rfl e3 rfl ?_
            | refine calP_lent rfl rfl ed rfl ?_
            | refine calP_lent rfl rfl e6 rfl ?_
            | refine PW.seq (fun K hK => ?_)
            | refine PW.ret ?_
            | refine PW.skip ?_
            | refine PW.exit ?_
            | refine PW.block ?_
            | refine PW.condT rfl ?_
            | refine PW.condF rfl ?_
            | (refine PW.condD rfl (fun hc => ?_) (fun hc => ?_) <;> first | (exfalso; omega) | skip)
            | (refine PW.condN rfl (fun hc => ?_) (fun hc => ?_) <;> first | (exfalso; omega) | skip)
            | refine PW.cond rfl (fun hc => ?_) (fun hc => ?_)
            | refine PW.regQ [] ?_
            | refine PW.sdrawG kt_6 sc_6 [] hmix (by kernel_rfl) (fun K hK => ?_)
            | refine PW.drawG sc_6 [] hmix (by kernel_rfl) (fun K hK => ?_)
            | refine PW.label ?_
            | omega
            | (split <;> first | contradiction | skip)
      · have h2 : affordE o r s e c = 0 := by simp [affordE, q1, qc, co, whenV, firstV]
        have e3 := Afford_good o r s e c t h2 q1 (ht1 co) t2 t3 t4
        have h1 := ht1 co
        have m0 : mm2 true 0 (t - 1) = t - 1 := by simp only [mm2, if_true]; split <;> omega
        have d0 : decide ((0 : Int) ≤ t - 1) = true := decide_eq_true (by omega)
        rw [m0, d0] at e6
        generalize t - 1 = y at e3 e6
        clear t3 t4 ht0 ht1 t1 t2 h1 m0 d0 h2
        rcases hn with ⟨qn, n1, n2⟩ | ⟨qn, n1⟩ | ⟨qn, n1, n2⟩
        · have h1 : costE o r s e n = 0 := by simp [costE, q1, qn]
          have e4 := CostOf_spec o r s e n q1 (by omega) (by omega)
          rw [h1] at e1
          generalize costV o r s e n = x at e1 e4
          unfold rulesM at *
          repeat' first
            | exact True.intro
            | refine runQ_step (fun K hK => ?_)
            | refine runQ_end ?_
            | refine PW.sregN kt_6 [] (fun K hK => ?_)
            | simp only [push_cast, ↓reduceIte, Nat.reduceAdd, Nat.reduceSub, Nat.reduceMul, Nat.reduceEqDiff, Nat.reduceLT, Nat.reduceLeDiff, Int.reduceToNat, reduceCtorEq, Int.reduceEq, Int.reduceLT, Int.reduceLE, Int.reduceAdd, Int.reduceSub, Int.reduceMul, Int.reduceNeg, MV.top, kt_6, ti1, ti2, ti3, ti4, ti5, ti6, ti7, ti8, ti9, ti22, ti23, ti25, ti30, ti32, ti49, ti51, eqt7, eqt8, eqt30, eqt51, whenV, n1, n2, c1, c2]
            | refine And.intro ?_ ?_
            | (refine hK _ ?_; clear hK K)
            | (refine hK _ ?_ ?_ <;> clear hK K)
            | apply_assumption (exfalso := false) (symm := false) only [*]
            | refine runQ_gC rfl (fun K hK => ?_)
            | refine runQ_gS rfl rfl ?_
            | refine runQ_gU rfl rfl ?_
            | (refine runQ_gT rfl (fun hc K hK => ?_) (fun hc => ?_) <;> first | (exfalso; omega) | skip)
            | (refine runQ_gF rfl (fun hc K hK => ?_) (fun hc => ?_) <;> first | (exfalso; omega) | skip)
            | refine runQ_guard rfl (fun hc K hK => ?_) (fun hc => ?_)
            | refine DrG.take rfl rfl rfl (by kernel_rfl) rfl (fun K hK => ?_)
            | refine DrG.one rfl rfl (by kernel_rfl) (by kernel_rfl) (by kernel_rfl) (fun K hK => ?_)
            | refine DrG.fin rfl (by kernel_rfl) (by kernel_rfl) ?_
            | refine Still.ofR rfl rfl rfl (by kernel_rfl) rfl (fun K hK => ?_)
            | refine DrG.alt rfl (by kernel_rfl) (by kernel_rfl) ?_
            | refine DrH.two rfl rfl (by kernel_rfl) (fun K hK => ?_) ?_
            | refine DrH.one rfl rfl (by kernel_rfl) (fun K hK => ?_)
            | refine calP_lent rfl rfl e1 rfl ?_
            | refine calP_lent rfl rfl e2 rfl ?_
            | refine calP_lent rfl rfl e3 rfl ?_
            | refine calP_lent rfl rfl ed rfl ?_
            | refine calP_lent rfl rfl e4 rfl ?_
            | refine calP_lent rfl rfl e6 rfl ?_
            | refine PW.seq (fun K hK => ?_)
            | refine PW.ret ?_
            | refine PW.skip ?_
            | refine PW.exit ?_
            | refine PW.block ?_
            | refine PW.condT rfl ?_
            | refine PW.condF rfl ?_
            | (refine PW.condD rfl (fun hc => ?_) (fun hc => ?_) <;> first | (exfalso; omega) | skip)
            | (refine PW.condN rfl (fun hc => ?_) (fun hc => ?_) <;> first | (exfalso; omega) | skip)
            | refine PW.cond rfl (fun hc => ?_) (fun hc => ?_)
            | refine PW.regQ [] ?_
            | refine PW.sdrawG kt_6 sc_6 [] hmix (by kernel_rfl) (fun K hK => ?_)
            | refine PW.drawG sc_6 [] hmix (by kernel_rfl) (fun K hK => ?_)
            | refine PW.label ?_
            | omega
            | (split <;> first | contradiction | skip)
        · have h1 : costE o r s e n = 1 := by simp [costE, q1, qn]
          rw [h1] at e1
          unfold rulesM at *
          repeat' first
            | exact True.intro
            | refine runQ_step (fun K hK => ?_)
            | refine runQ_end ?_
            | refine PW.sregN kt_6 [] (fun K hK => ?_)
            | simp only [push_cast, ↓reduceIte, Nat.reduceAdd, Nat.reduceSub, Nat.reduceMul, Nat.reduceEqDiff, Nat.reduceLT, Nat.reduceLeDiff, Int.reduceToNat, reduceCtorEq, Int.reduceEq, Int.reduceLT, Int.reduceLE, Int.reduceAdd, Int.reduceSub, Int.reduceMul, Int.reduceNeg, MV.top, kt_6, ti1, ti2, ti3, ti4, ti5, ti6, ti7, ti8, ti9, ti22, ti23, ti25, ti30, ti32, ti49, ti51, eqt7, eqt8, eqt30, eqt51, whenV, n1, c1, c2]
            | refine And.intro ?_ ?_
            | (refine hK _ ?_; clear hK K)
            | (refine hK _ ?_ ?_ <;> clear hK K)
            | apply_assumption (exfalso := false) (symm := false) only [*]
            | refine runQ_gC rfl (fun K hK => ?_)
            | refine runQ_gS rfl rfl ?_
            | refine runQ_gU rfl rfl ?_
            | (refine runQ_gT rfl (fun hc K hK => ?_) (fun hc => ?_) <;> first | (exfalso; omega) | skip)
            | (refine runQ_gF rfl (fun hc K hK => ?_) (fun hc => ?_) <;> first | (exfalso; omega) | skip)
            | refine runQ_guard rfl (fun hc K hK => ?_) (fun hc => ?_)
            | refine DrG.take rfl rfl rfl (by kernel_rfl) rfl (fun K hK => ?_)
            | refine DrG.one rfl rfl (by kernel_rfl) (by kernel_rfl) (by kernel_rfl) (fun K hK => ?_)
            | refine DrG.fin rfl (by kernel_rfl) (by kernel_rfl) ?_
            | refine Still.ofR rfl rfl rfl (by kernel_rfl) rfl (fun K hK => ?_)
            | refine DrG.alt rfl (by kernel_rfl) (by kernel_rfl) ?_
            | refine DrH.two rfl rfl (by kernel_rfl) (fun K hK => ?_) ?_
            | refine DrH.one rfl rfl (by kernel_rfl) (fun K hK => ?_)
            | refine calP_lent rfl rfl e1 rfl ?_
            | refine calP_lent rfl rfl e2 rfl ?_
            | refine calP_lent rfl rfl e3 rfl ?_
            | refine calP_lent rfl rfl ed rfl ?_
            | refine calP_lent rfl rfl e6 rfl ?_
            | refine PW.seq (fun K hK => ?_)
            | refine PW.ret ?_
            | refine PW.skip ?_
            | refine PW.exit ?_
            | refine PW.block ?_
            | refine PW.condT rfl ?_
            | refine PW.condF rfl ?_
            | (refine PW.condD rfl (fun hc => ?_) (fun hc => ?_) <;> first | (exfalso; omega) | skip)
            | (refine PW.condN rfl (fun hc => ?_) (fun hc => ?_) <;> first | (exfalso; omega) | skip)
            | refine PW.cond rfl (fun hc => ?_) (fun hc => ?_)
            | refine PW.regQ [] ?_
            | refine PW.sdrawG kt_6 sc_6 [] hmix (by kernel_rfl) (fun K hK => ?_)
            | refine PW.drawG sc_6 [] hmix (by kernel_rfl) (fun K hK => ?_)
            | refine PW.label ?_
            | omega
            | (split <;> first | contradiction | skip)
        · have h1 : costE o r s e n = 1 := by simp [costE, q1, qn]
          rw [h1] at e1
          unfold rulesM at *
          repeat' first
            | exact True.intro
            | refine runQ_step (fun K hK => ?_)
            | refine runQ_end ?_
            | refine PW.sregN kt_6 [] (fun K hK => ?_)
            | simp only [push_cast, ↓reduceIte, Nat.reduceAdd, Nat.reduceSub, Nat.reduceMul, Nat.reduceEqDiff, Nat.reduceLT, Nat.reduceLeDiff, Int.reduceToNat, reduceCtorEq, Int.reduceEq, Int.reduceLT, Int.reduceLE, Int.reduceAdd, Int.reduceSub, Int.reduceMul, Int.reduceNeg, MV.top, kt_6, ti1, ti2, ti3, ti4, ti5, ti6, ti7, ti8, ti9, ti22, ti23, ti25, ti30, ti32, ti49, ti51, eqt7, eqt8, eqt30, eqt51, whenV, n1, n2, c1, c2]
            | refine And.intro ?_ ?_
            | (refine hK _ ?_; clear hK K)
            | (refine hK _ ?_ ?_ <;> clear hK K)
            | apply_assumption (exfalso := false) (symm := false) only [*]
            | refine runQ_gC rfl (fun K hK => ?_)
            | refine runQ_gS rfl rfl ?_
            | refine runQ_gU rfl rfl ?_
            | (refine runQ_gT rfl (fun hc K hK => ?_) (fun hc => ?_) <;> first | (exfalso; omega) | skip)
            | (refine runQ_gF rfl (fun hc K hK => ?_) (fun hc => ?_) <;> first | (exfalso; omega) | skip)
            | refine runQ_guard rfl (fun hc K hK => ?_) (fun hc => ?_)
            | refine DrG.take rfl rfl rfl (by kernel_rfl) rfl (fun K hK => ?_)
            | refine DrG.one rfl rfl (by kernel_rfl) (by kernel_rfl) (by kernel_rfl) (fun K hK => ?_)
            | refine DrG.fin rfl (by kernel_rfl) (by kernel_rfl) ?_
            | refine Still.ofR rfl rfl rfl (by kernel_rfl) rfl (fun K hK => ?_)
            | refine DrG.alt rfl (by kernel_rfl) (by kernel_rfl) ?_
            | refine DrH.two rfl rfl (by kernel_rfl) (fun K hK => ?_) ?_
            | refine DrH.one rfl rfl (by kernel_rfl) (fun K hK => ?_)
            | refine calP_lent rfl rfl e1 rfl ?_
            | refine calP_lent rfl rfl e2 rfl ?_
            | refine calP_lent rfl rfl e3 rfl ?_
            | refine calP_lent rfl rfl ed rfl ?_
            | refine calP_lent rfl rfl e6 rfl ?_
            | refine PW.seq (fun K hK => ?_)
            | refine PW.ret ?_
            | refine PW.skip ?_
            | refine PW.exit ?_
            | refine PW.block ?_
            | refine PW.condT rfl ?_
            | refine PW.condF rfl ?_
            | (refine PW.condD rfl (fun hc => ?_) (fun hc => ?_) <;> first | (exfalso; omega) | skip)
            | (refine PW.condN rfl (fun hc => ?_) (fun hc => ?_) <;> first | (exfalso; omega) | skip)
            | refine PW.cond rfl (fun hc => ?_) (fun hc => ?_)
            | refine PW.regQ [] ?_
            | refine PW.sdrawG kt_6 sc_6 [] hmix (by kernel_rfl) (fun K hK => ?_)
            | refine PW.drawG sc_6 [] hmix (by kernel_rfl) (fun K hK => ?_)
            | refine PW.label ?_
            | omega
            | (split <;> first | contradiction | skip)
    · have h2 : affordE o r s e c = 1 := by simp [affordE, q1, qc, whenV, firstV]
      have e3 := Afford_bad o r s e c (by rw [h2]; decide)
      rw [h2] at e3
      clear t3 t4 ht0 ht1 t1 t2 e6 h2
      rcases hn with ⟨qn, n1, n2⟩ | ⟨qn, n1⟩ | ⟨qn, n1, n2⟩
      · have h1 : costE o r s e n = 0 := by simp [costE, q1, qn]
        have e4 := CostOf_spec o r s e n q1 (by omega) (by omega)
        rw [h1] at e1
        generalize costV o r s e n = x at e1 e4
        unfold rulesM at *
        repeat' first
          | exact True.intro
          | refine runQ_step (fun K hK => ?_)
          | refine runQ_end ?_
          | refine PW.sregN kt_6 [] (fun K hK => ?_)
          | simp only [push_cast, ↓reduceIte, Nat.reduceAdd, Nat.reduceSub, Nat.reduceMul, Nat.reduceEqDiff, Nat.reduceLT, Nat.reduceLeDiff, Int.reduceToNat, reduceCtorEq, Int.reduceEq, Int.reduceLT, Int.reduceLE, Int.reduceAdd, Int.reduceSub, Int.reduceMul, Int.reduceNeg, MV.top, kt_6, ti1, ti2, ti3, ti4, ti5, ti6, ti7, ti8, ti9, ti22, ti23, ti25, ti30, ti32, ti49, ti51, eqt7, eqt8, eqt30, eqt51, whenV, n1, n2, c1]
          | refine And.intro ?_ ?_
          | (refine hK _ ?_; clear hK K)
          | (refine hK _ ?_ ?_ <;> clear hK K)
          | apply_assumption (exfalso := false) (symm := false) only [*]
          | refine runQ_gC rfl (fun K hK => ?_)
          | refine runQ_gS rfl rfl ?_
          | refine runQ_gU rfl rfl ?_
          | (refine runQ_gT rfl (fun hc K hK => ?_) (fun hc => ?_) <;> first | (exfalso; omega) | skip)
          | (refine runQ_gF rfl (fun hc K hK => ?_) (fun hc => ?_) <;> first | (exfalso; omega) | skip)
          | refine runQ_guard rfl (fun hc K hK => ?_) (fun hc => ?_)
          | refine DrG.take rfl rfl rfl (by kernel_rfl) rfl (fun K hK => ?_)
          | refine DrG.one rfl rfl (by kernel_rfl) (by kernel_rfl) (by kernel_rfl) (fun K hK => ?_)
          | refine DrG.fin rfl (by kernel_rfl) (by kernel_rfl) ?_
          | refine Still.ofR rfl rfl rfl (by kernel_rfl) rfl (fun K hK => ?_)
          | refine DrG.alt rfl (by kernel_rfl) (by kernel_rfl) ?_
          | refine DrH.two rfl rfl (by kernel_rfl) (fun K hK => ?_) ?_
          | refine DrH.one rfl rfl (by kernel_rfl) (fun K hK => ?_)
          | refine calP_lent rfl rfl e1 rfl ?_
          | refine calP_lent rfl rfl e2 rfl ?_
          | refine calP_lent rfl rfl e3 rfl ?_
          | refine calP_lent rfl rfl ed rfl ?_
          | refine calP_lent rfl rfl e4 rfl ?_
          | refine PW.seq (fun K hK => ?_)
          | refine PW.ret ?_
          | refine PW.skip ?_
          | refine PW.exit ?_
          | refine PW.block ?_
          | refine PW.condT rfl ?_
          | refine PW.condF rfl ?_
          | (refine PW.condD rfl (fun hc => ?_) (fun hc => ?_) <;> first | (exfalso; omega) | skip)
          | (refine PW.condN rfl (fun hc => ?_) (fun hc => ?_) <;> first | (exfalso; omega) | skip)
          | refine PW.cond rfl (fun hc => ?_) (fun hc => ?_)
          | refine PW.regQ [] ?_
          | refine PW.sdrawG kt_6 sc_6 [] hmix (by kernel_rfl) (fun K hK => ?_)
          | refine PW.drawG sc_6 [] hmix (by kernel_rfl) (fun K hK => ?_)
          | refine PW.label ?_
          | omega
          | (split <;> first | contradiction | skip)
      · have h1 : costE o r s e n = 1 := by simp [costE, q1, qn]
        rw [h1] at e1
        unfold rulesM at *
        repeat' first
          | exact True.intro
          | refine runQ_step (fun K hK => ?_)
          | refine runQ_end ?_
          | refine PW.sregN kt_6 [] (fun K hK => ?_)
          | simp only [push_cast, ↓reduceIte, Nat.reduceAdd, Nat.reduceSub, Nat.reduceMul, Nat.reduceEqDiff, Nat.reduceLT, Nat.reduceLeDiff, Int.reduceToNat, reduceCtorEq, Int.reduceEq, Int.reduceLT, Int.reduceLE, Int.reduceAdd, Int.reduceSub, Int.reduceMul, Int.reduceNeg, MV.top, kt_6, ti1, ti2, ti3, ti4, ti5, ti6, ti7, ti8, ti9, ti22, ti23, ti25, ti30, ti32, ti49, ti51, eqt7, eqt8, eqt30, eqt51, whenV, n1, c1]
          | refine And.intro ?_ ?_
          | (refine hK _ ?_; clear hK K)
          | (refine hK _ ?_ ?_ <;> clear hK K)
          | apply_assumption (exfalso := false) (symm := false) only [*]
          | refine runQ_gC rfl (fun K hK => ?_)
          | refine runQ_gS rfl rfl ?_
          | refine runQ_gU rfl rfl ?_
          | (refine runQ_gT rfl (fun hc K hK => ?_) (fun hc => ?_) <;> first | (exfalso; omega) | skip)
          | (refine runQ_gF rfl (fun hc K hK => ?_) (fun hc => ?_) <;> first | (exfalso; omega) | skip)
          | refine runQ_guard rfl (fun hc K hK => ?_) (fun hc => ?_)
          | refine DrG.take rfl rfl rfl (by kernel_rfl) rfl (fun K hK => ?_)
          | refine DrG.one rfl rfl (by kernel_rfl) (by kernel_rfl) (by kernel_rfl) (fun K hK => ?_)
          | refine DrG.fin rfl (by kernel_rfl) (by kernel_rfl) ?_
          | refine Still.ofR rfl rfl rfl (by kernel_rfl) rfl (fun K hK => ?_)
          | refine DrG.alt rfl (by kernel_rfl) (by kernel_rfl) ?_
          | refine DrH.two rfl rfl (by kernel_rfl) (fun K hK => ?_) ?_
          | refine DrH.one rfl rfl (by kernel_rfl) (fun K hK => ?_)
          | refine calP_lent rfl rfl e1 rfl ?_
          | refine calP_lent rfl rfl e2 rfl ?_
          | refine calP_lent rfl rfl e3 rfl ?_
          | refine calP_lent rfl rfl ed rfl ?_
          | refine PW.seq (fun K hK => ?_)
          | refine PW.ret ?_
          | refine PW.skip ?_
          | refine PW.exit ?_
          | refine PW.block ?_
          | refine PW.condT rfl ?_
          | refine PW.condF rfl ?_
          | (refine PW.condD rfl (fun hc => ?_) (fun hc => ?_) <;> first | (exfalso; omega) | skip)
          | (refine PW.condN rfl (fun hc => ?_) (fun hc => ?_) <;> first | (exfalso; omega) | skip)
          | refine PW.cond rfl (fun hc => ?_) (fun hc => ?_)
          | refine PW.regQ [] ?_
          | refine PW.sdrawG kt_6 sc_6 [] hmix (by kernel_rfl) (fun K hK => ?_)
          | refine PW.drawG sc_6 [] hmix (by kernel_rfl) (fun K hK => ?_)
          | refine PW.label ?_
          | omega
          | (split <;> first | contradiction | skip)
      · have h1 : costE o r s e n = 1 := by simp [costE, q1, qn]
        rw [h1] at e1
        unfold rulesM at *
        repeat' first
          | exact True.intro
          | refine runQ_step (fun K hK => ?_)
          | refine runQ_end ?_
          | refine PW.sregN kt_6 [] (fun K hK => ?_)
          | simp only [push_cast, ↓reduceIte, Nat.reduceAdd, Nat.reduceSub, Nat.reduceMul, Nat.reduceEqDiff, Nat.reduceLT, Nat.reduceLeDiff, Int.reduceToNat, reduceCtorEq, Int.reduceEq, Int.reduceLT, Int.reduceLE, Int.reduceAdd, Int.reduceSub, Int.reduceMul, Int.reduceNeg, MV.top, kt_6, ti1, ti2, ti3, ti4, ti5, ti6, ti7, ti8, ti9, ti22, ti23, ti25, ti30, ti32, ti49, ti51, eqt7, eqt8, eqt30, eqt51, whenV, n1, n2, c1]
          | refine And.intro ?_ ?_
          | (refine hK _ ?_; clear hK K)
          | (refine hK _ ?_ ?_ <;> clear hK K)
          | apply_assumption (exfalso := false) (symm := false) only [*]
          | refine runQ_gC rfl (fun K hK => ?_)
          | refine runQ_gS rfl rfl ?_
          | refine runQ_gU rfl rfl ?_
          | (refine runQ_gT rfl (fun hc K hK => ?_) (fun hc => ?_) <;> first | (exfalso; omega) | skip)
          | (refine runQ_gF rfl (fun hc K hK => ?_) (fun hc => ?_) <;> first | (exfalso; omega) | skip)
          | refine runQ_guard rfl (fun hc K hK => ?_) (fun hc => ?_)
          | refine DrG.take rfl rfl rfl (by kernel_rfl) rfl (fun K hK => ?_)
          | refine DrG.one rfl rfl (by kernel_rfl) (by kernel_rfl) (by kernel_rfl) (fun K hK => ?_)
          | refine DrG.fin rfl (by kernel_rfl) (by kernel_rfl) ?_
          | refine Still.ofR rfl rfl rfl (by kernel_rfl) rfl (fun K hK => ?_)
          | refine DrG.alt rfl (by kernel_rfl) (by kernel_rfl) ?_
          | refine DrH.two rfl rfl (by kernel_rfl) (fun K hK => ?_) ?_
          | refine DrH.one rfl rfl (by kernel_rfl) (fun K hK => ?_)
          | refine calP_lent rfl rfl e1 rfl ?_
          | refine calP_lent rfl rfl e2 rfl ?_
          | refine calP_lent rfl rfl e3 rfl ?_
          | refine calP_lent rfl rfl ed rfl ?_
          | refine PW.seq (fun K hK => ?_)
          | refine PW.ret ?_
          | refine PW.skip ?_
          | refine PW.exit ?_
          | refine PW.block ?_
          | refine PW.condT rfl ?_
          | refine PW.condF rfl ?_
          | (refine PW.condD rfl (fun hc => ?_) (fun hc => ?_) <;> first | (exfalso; omega) | skip)
          | (refine PW.condN rfl (fun hc => ?_) (fun hc => ?_) <;> first | (exfalso; omega) | skip)
          | refine PW.cond rfl (fun hc => ?_) (fun hc => ?_)
          | refine PW.regQ [] ?_
          | refine PW.sdrawG kt_6 sc_6 [] hmix (by kernel_rfl) (fun K hK => ?_)
          | refine PW.drawG sc_6 [] hmix (by kernel_rfl) (fun K hK => ?_)
          | refine PW.label ?_
          | omega
          | (split <;> first | contradiction | skip)
    · have h2 : affordE o r s e c = 1 := by simp [affordE, q1, qc, whenV, firstV]
      have e3 := Afford_bad o r s e c (by rw [h2]; decide)
      rw [h2] at e3
      clear t3 t4 ht0 ht1 t1 t2 e6 h2
      rcases hn with ⟨qn, n1, n2⟩ | ⟨qn, n1⟩ | ⟨qn, n1, n2⟩
      · have h1 : costE o r s e n = 0 := by simp [costE, q1, qn]
        have e4 := CostOf_spec o r s e n q1 (by omega) (by omega)
        rw [h1] at e1
        generalize costV o r s e n = x at e1 e4
        unfold rulesM at *
        repeat' first
          | exact True.intro
          | refine runQ_step (fun K hK => ?_)
          | refine runQ_end ?_
          | refine PW.sregN kt_6 [] (fun K hK => ?_)
          | simp only [push_cast, ↓reduceIte, Nat.reduceAdd, Nat.reduceSub, Nat.reduceMul, Nat.reduceEqDiff, Nat.reduceLT, Nat.reduceLeDiff, Int.reduceToNat, reduceCtorEq, Int.reduceEq, Int.reduceLT, Int.reduceLE, Int.reduceAdd, Int.reduceSub, Int.reduceMul, Int.reduceNeg, MV.top, kt_6, ti1, ti2, ti3, ti4, ti5, ti6, ti7, ti8, ti9, ti22, ti23, ti25, ti30, ti32, ti49, ti51, eqt7, eqt8, eqt30, eqt51, whenV, n1, n2, c1, c2]
          | refine And.intro ?_ ?_
          | (refine hK _ ?_; clear hK K)
          | (refine hK _ ?_ ?_ <;> clear hK K)
          | apply_assumption (exfalso := false) (symm := false) only [*]
          | refine runQ_gC rfl (fun K hK => ?_)
          | refine runQ_gS rfl rfl ?_
          | refine runQ_gU rfl rfl ?_
          | (refine runQ_gT rfl (fun hc K hK => ?_) (fun hc => ?_) <;> first | (exfalso; omega) | skip)
          | (refine runQ_gF rfl (fun hc K hK => ?_) (fun hc => ?_) <;> first | (exfalso; omega) | skip)
          | refine runQ_guard rfl (fun hc K hK => ?_) (fun hc => ?_)
          | refine DrG.take rfl rfl rfl (by kernel_rfl) rfl (fun K hK => ?_)
          | refine DrG.one rfl rfl (by kernel_rfl) (by kernel_rfl) (by kernel_rfl) (fun K hK => ?_)
          | refine DrG.fin rfl (by kernel_rfl) (by kernel_rfl) ?_
          | refine Still.ofR rfl rfl rfl (by kernel_rfl) rfl (fun K hK => ?_)
          | refine DrG.alt rfl (by kernel_rfl) (by kernel_rfl) ?_
          | refine DrH.two rfl rfl (by kernel_rfl) (fun K hK => ?_) ?_
          | refine DrH.one rfl rfl (by kernel_rfl) (fun K hK => ?_)
          | refine calP_lent rfl rfl e1 rfl ?_
          | refine calP_lent rfl rfl e2 rfl ?_
          | refine calP_lent rfl rfl e3 rfl ?_
          | refine calP_lent rfl rfl ed rfl ?_
          | refine calP_lent rfl rfl e4 rfl ?_
          | refine PW.seq (fun K hK => ?_)
          | refine PW.ret ?_
          | refine PW.skip ?_
          | refine PW.exit ?_
          | refine PW.block ?_
          | refine PW.condT rfl ?_
          | refine PW.condF rfl ?_
          | (refine PW.condD rfl (fun hc => ?_) (fun hc => ?_) <;> first | (exfalso; omega) | skip)
          | (refine PW.condN rfl (fun hc => ?_) (fun hc => ?_) <;> first | (exfalso; omega) | skip)
          | refine PW.cond rfl (fun hc => ?_) (fun hc => ?_)
          | refine PW.regQ [] ?_
          | refine PW.sdrawG kt_6 sc_6 [] hmix (by kernel_rfl) (fun K hK => ?_)
          | refine PW.drawG sc_6 [] hmix (by kernel_rfl) (fun K hK => ?_)
          | refine PW.label ?_
          | omega
          | (split <;> first | contradiction | skip)
      · have h1 : costE o r s e n = 1 := by simp [costE, q1, qn]
        rw [h1] at e1
        unfold rulesM at *
        repeat' first
          | exact True.intro
          | refine runQ_step (fun K hK => ?_)
          | refine runQ_end ?_
          | refine PW.sregN kt_6 [] (fun K hK => ?_)
          | simp only [push_cast, ↓reduceIte, Nat.reduceAdd, Nat.reduceSub, Nat.reduceMul, Nat.reduceEqDiff, Nat.reduceLT, Nat.reduceLeDiff, Int.reduceToNat, reduceCtorEq, Int.reduceEq, Int.reduceLT, Int.reduceLE, Int.reduceAdd, Int.reduceSub, Int.reduceMul, Int.reduceNeg, MV.top, kt_6, ti1, ti2, ti3, ti4, ti5, ti6, ti7, ti8, ti9, ti22, ti23, ti25, ti30, ti32, ti49, ti51, eqt7, eqt8, eqt30, eqt51, whenV, n1, c1, c2]
          | refine And.intro ?_ ?_
          | (refine hK _ ?_; clear hK K)
          | (refine hK _ ?_ ?_ <;> clear hK K)
          | apply_assumption (exfalso := false) (symm := false) only [*]
          | refine runQ_gC rfl (fun K hK => ?_)
          | refine runQ_gS rfl rfl ?_
          | refine runQ_gU rfl rfl ?_
          | (refine runQ_gT rfl (fun hc K hK => ?_) (fun hc => ?_) <;> first | (exfalso; omega) | skip)
          | (refine runQ_gF rfl (fun hc K hK => ?_) (fun hc => ?_) <;> first | (exfalso; omega) | skip)
          | refine runQ_guard rfl (fun hc K hK => ?_) (fun hc => ?_)
          | refine DrG.take rfl rfl rfl (by kernel_rfl) rfl (fun K hK => ?_)
          | refine DrG.one rfl rfl (by kernel_rfl) (by kernel_rfl) (by kernel_rfl) (fun K hK => ?_)
          | refine DrG.fin rfl (by kernel_rfl) (by kernel_rfl) ?_
          | refine Still.ofR rfl rfl rfl (by kernel_rfl) rfl (fun K hK => ?_)
          | refine DrG.alt rfl (by kernel_rfl) (by kernel_rfl) ?_
          | refine DrH.two rfl rfl (by kernel_rfl) (fun K hK => ?_) ?_
          | refine DrH.one rfl rfl (by kernel_rfl) (fun K hK => ?_)
          | refine calP_lent rfl rfl e1 rfl ?_
          | refine calP_lent rfl rfl e2 rfl ?_
          | refine calP_lent rfl rfl e3 rfl ?_
          | refine calP_lent rfl rfl ed rfl ?_
          | refine PW.seq (fun K hK => ?_)
          | refine PW.ret ?_
          | refine PW.skip ?_
          | refine PW.exit ?_
          | refine PW.block ?_
          | refine PW.condT rfl ?_
          | refine PW.condF rfl ?_
          | (refine PW.condD rfl (fun hc => ?_) (fun hc => ?_) <;> first | (exfalso; omega) | skip)
          | (refine PW.condN rfl (fun hc => ?_) (fun hc => ?_) <;> first | (exfalso; omega) | skip)
          | refine PW.cond rfl (fun hc => ?_) (fun hc => ?_)
          | refine PW.regQ [] ?_
          | refine PW.sdrawG kt_6 sc_6 [] hmix (by kernel_rfl) (fun K hK => ?_)
          | refine PW.drawG sc_6 [] hmix (by kernel_rfl) (fun K hK => ?_)
          | refine PW.label ?_
          | omega
          | (split <;> first | contradiction | skip)
      · have h1 : costE o r s e n = 1 := by simp [costE, q1, qn]
        rw [h1] at e1
        unfold rulesM at *
        repeat' first
          | exact True.intro
          | refine runQ_step (fun K hK => ?_)
          | refine runQ_end ?_
          | refine PW.sregN kt_6 [] (fun K hK => ?_)
          | simp only [push_cast, ↓reduceIte, Nat.reduceAdd, Nat.reduceSub, Nat.reduceMul, Nat.reduceEqDiff, Nat.reduceLT, Nat.reduceLeDiff, Int.reduceToNat, reduceCtorEq, Int.reduceEq, Int.reduceLT, Int.reduceLE, Int.reduceAdd, Int.reduceSub, Int.reduceMul, Int.reduceNeg, MV.top, kt_6, ti1, ti2, ti3, ti4, ti5, ti6, ti7, ti8, ti9, ti22, ti23, ti25, ti30, ti32, ti49, ti51, eqt7, eqt8, eqt30, eqt51, whenV, n1, n2, c1, c2]
          | refine And.intro ?_ ?_
          | (refine hK _ ?_; clear hK K)
          | (refine hK _ ?_ ?_ <;> clear hK K)
          | apply_assumption (exfalso := false) (symm := false) only [*]
          | refine runQ_gC rfl (fun K hK => ?_)
          | refine runQ_gS rfl rfl ?_
          | refine runQ_gU rfl rfl ?_
          | (refine runQ_gT rfl (fun hc K hK => ?_) (fun hc => ?_) <;> first | (exfalso; omega) | skip)
          | (refine runQ_gF rfl (fun hc K hK => ?_) (fun hc => ?_) <;> first | (exfalso; omega) | skip)
          | refine runQ_guard rfl (fun hc K hK => ?_) (fun hc => ?_)
          | refine DrG.take rfl rfl rfl (by kernel_rfl) rfl (fun K hK => ?_)
          | refine DrG.one rfl rfl (by kernel_rfl) (by kernel_rfl) (by kernel_rfl) (fun K hK => ?_)
          | refine DrG.fin rfl (by kernel_rfl) (by kernel_rfl) ?_
          | refine Still.ofR rfl rfl rfl (by kernel_rfl) rfl (fun K hK => ?_)
          | refine DrG.alt rfl (by kernel_rfl) (by kernel_rfl) ?_
          | refine DrH.two rfl rfl (by kernel_rfl) (fun K hK => ?_) ?_
          | refine DrH.one rfl rfl (by kernel_rfl) (fun K hK => ?_)
          | refine calP_lent rfl rfl e1 rfl ?_
          | refine calP_lent rfl rfl e2 rfl ?_
          | refine calP_lent rfl rfl e3 rfl ?_
          | refine calP_lent rfl rfl ed rfl ?_
          | refine PW.seq (fun K hK => ?_)
          | refine PW.ret ?_
          | refine PW.skip ?_
          | refine PW.exit ?_
          | refine PW.block ?_
          | refine PW.condT rfl ?_
          | refine PW.condF rfl ?_
          | (refine PW.condD rfl (fun hc => ?_) (fun hc => ?_) <;> first | (exfalso; omega) | skip)
          | (refine PW.condN rfl (fun hc => ?_) (fun hc => ?_) <;> first | (exfalso; omega) | skip)
          | refine PW.cond rfl (fun hc => ?_) (fun hc => ?_)
          | refine PW.regQ [] ?_
          | refine PW.sdrawG kt_6 sc_6 [] hmix (by kernel_rfl) (fun K hK => ?_)
          | refine PW.drawG sc_6 [] hmix (by kernel_rfl) (fun K hK => ?_)
          | refine PW.label ?_
          | omega
          | (split <;> first | contradiction | skip)
end Go.Pv

