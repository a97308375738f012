/- The law SampleEstimates. -/
import Derived.Test.YtoakchnegkmepaaF16
set_option linter.unusedSimpArgs false
set_option linter.unusedVariables false
set_option maxRecDepth 100000
set_option maxHeartbeats 1500000
namespace Go.Pv
open Go Go.Proofs
attribute [local irreducible] PW Dr DrS DrN DrG DrH Spec SpecB runQ opP calP gdP Still

theorem efV_snoc (ds : List D3) (d : D3) : efV (ds ++ [d]) = firstV [efV ds, whenV (!d3ok d) 1] := by
  unfold efV
  rw [List.map_append]
  induction ds with
  | nil => simp [firstV]
  | cons a r ih =>
    simp only [List.map_cons, List.cons_append, firstV] at ih ⊢
    by_cases h : whenV (!d3ok a) 1 = 0
    · simp only [h, if_true]; exact ih
    · simp only [h, if_false]

/-- Plans for open orders. -/
def sc_5 : List (Nat × Sc) := [(7, .take 1 (.take 4 (.take 5 (.two 0 [5, 4, 1] (.one 2 [5, 4] (.one 3 [5, 4] (.one 6 [4] (.one 7 [] (.one 8 [] (.one 9 [] (.one 10 [] (.fin)))))))) (.one 2 [5, 4] (.one 0 [5, 4] (.one 3 [5, 4] (.one 6 [4] (.one 7 [] (.one 8 [] (.one 9 [] (.one 10 [] (.fin))))))))))))), (14, .take 0 (.take 1 (.take 2 (.take 3 (.one 4 [3, 1, 0] (.one 5 [3, 1, 0] (.take 6 (.take 7 (.take 8 (.one 9 [7, 6, 3, 1, 0] (.take 10 (.one 11 [] (.fin)))))))))))))]
/-- What is read later. -/
def kt_5 : List (Nat × List Nat) := [(0, [0]), (1, [3, 11]), (2, [3, 4, 11, 22]), (3, [3, 4, 5, 11, 22]), (4, [3, 4, 5, 11, 14, 15, 22]), (5, [3, 4, 5, 11, 14, 15, 16, 22]), (6, [3, 4, 5, 6, 11, 14, 15, 22]), (7, [3, 4, 5, 11, 14, 15, 22]), (8, [3, 4, 5, 11, 14, 15, 22]), (9, [4, 5, 22, 31]), (10, [4, 5, 22]), (11, [4, 5, 7, 8, 22]), (12, [4, 5, 7, 8, 22, 38]), (13, [2]), (14, [2])]
theorem SampleEstimates_spec (ls : List Int) : Spec Try.prog 5 [ints ls] [(none, .bool true)] := by
  have hnp := np_ints ls
  unfold ints at *
  refine spec_of0 (nt := 61) (rs := [.tmp 2]) Try.func5 rfl rfl rfl rfl (by simp) (by simp [np]) (by intro x hx; simp only [List.mem_cons, List.not_mem_nil, or_false] at hx; subst hx; exact hnp) ?_
  clear hnp
  have hp := pickV_mem (ls := ls) (at_ := 0) (xs := [0, 1, 2, 3, 5, 6]) (by simp) (by simp)
  simp only [List.mem_cons, List.not_mem_nil, or_false] at hp
  have ep := fun B hB => @Pick_spec B 0 ls 0 [0, 1, 2, 3, 5, 6] hB (by omega) (by omega) (by simp) (by simp)
  generalize pickV ls 0 [0, 1, 2, 3, 5, 6] = m at ep hp
  have hm : 0 ≤ m ∧ m ≤ 6 := by omega
  clear hp
  repeat' first
    | exact True.intro
    | refine runQ_step (fun K hK => ?_)
    | refine runQ_end ?_
    | refine PW.sregN kt_5 [] (fun K hK => ?_)
    | simp only [push_cast, ↓reduceIte, Nat.reduceAdd, Nat.reduceSub, Nat.reduceMul, Nat.reduceEqDiff, Nat.reduceLT, Nat.reduceLeDiff, Int.reduceToNat, reduceCtorEq, Int.reduceEq, Int.reduceLT, Int.reduceLE, Int.reduceAdd, Int.reduceSub, Int.reduceMul, Int.reduceNeg, MV.top, kt_5, ti1, ti2, ti3, ti4, ti5, ti6, ti22, ti23, ti25, ti27, ti30, ti32, ti45, ti97, eqt27, eqt30, strm]
    | refine And.intro ?_ ?_
    | (refine hK _ ?_; clear hK K)
    | (refine hK _ ?_ ?_ <;> clear hK K)
    | apply_assumption (exfalso := false) (symm := false) only [*]
    | refine runQ_gC rfl (fun K hK => ?_)
    | refine runQ_gS rfl rfl ?_
    | refine runQ_gU rfl rfl ?_
    | (refine runQ_gT rfl (fun hc K hK => ?_) (fun hc => ?_) <;> first | (exfalso; omega) | skip)
    | (refine runQ_gF rfl (fun hc K hK => ?_) (fun hc => ?_) <;> first | (exfalso; omega) | skip)
    | refine runQ_guard rfl (fun hc K hK => ?_) (fun hc => ?_)
    | refine DrG.take rfl rfl rfl (by kernel_rfl) rfl (fun K hK => ?_)
    | refine DrG.one rfl rfl (by kernel_rfl) (by kernel_rfl) (by kernel_rfl) (fun K hK => ?_)
    | refine DrG.fin rfl (by kernel_rfl) (by kernel_rfl) ?_
    | refine Still.ofR rfl rfl rfl (by kernel_rfl) rfl (fun K hK => ?_)
    | refine DrG.takeW rfl rfl rfl rfl rfl (by kernel_rfl) rfl (fun K hK => ?_)
    | refine DrG.skipW rfl rfl rfl rfl rfl (by kernel_rfl) rfl ?_
    | refine DrG.oneW rfl rfl rfl rfl (by kernel_rfl) (by kernel_rfl) (by kernel_rfl) (fun K hK => ?_)
    | refine DrG.oneS rfl rfl rfl rfl rfl (by kernel_rfl) (by kernel_rfl) (by kernel_rfl) (by simp only [dOk]; omega) (fun K hK => ?_)
    | refine DrG.oneU rfl rfl rfl rfl (by kernel_rfl) (by kernel_rfl) (by kernel_rfl) (by simp only [dOk]; omega) (fun K hK => ?_)
    | refine Still.ofGW rfl rfl rfl rfl (by kernel_rfl) rfl (fun K hK => ?_)
    | refine Still.ofGS rfl rfl rfl rfl (by kernel_rfl) rfl
    | refine DrG.alt rfl (by kernel_rfl) (by kernel_rfl) ?_
    | refine DrH.two rfl rfl (by kernel_rfl) (fun K hK => ?_) ?_
    | refine DrH.one rfl rfl (by kernel_rfl) (fun K hK => ?_)
    | refine calP_box rfl rfl (ep _ rfl) ?_
    | refine PW.ret ?_
    | refine PW.skip ?_
    | refine PW.exit ?_
    | refine PW.block ?_
    | refine PW.condT rfl ?_
    | refine PW.condF rfl ?_
    | (refine PW.condD rfl (fun hc => ?_) (fun hc => ?_) <;> first | (exfalso; omega) | skip)
    | (refine PW.condN rfl (fun hc => ?_) (fun hc => ?_) <;> first | (exfalso; omega) | skip)
    | refine PW.cond rfl (fun hc => ?_) (fun hc => ?_)
    | refine PW.regQ [] ?_
    | refine PW.sdrawG kt_5 sc_5 [] hmix (by kernel_rfl) (fun K hK => ?_)
    | refine PW.drawG sc_5 [] hmix (by kernel_rfl) (fun K hK => ?_)
    | refine PW.label ?_
    | omega
    | (split <;> first | contradiction | skip)
  refine PW.seq (fun K hK => ?_)
  repeat' first
    | exact True.intro
    | refine runQ_step (fun K hK => ?_)
    | refine runQ_end ?_
    | refine PW.sregN kt_5 [] (fun K hK => ?_)
    | simp only [push_cast, ↓reduceIte, Nat.reduceAdd, Nat.reduceSub, Nat.reduceMul, Nat.reduceEqDiff, Nat.reduceLT, Nat.reduceLeDiff, Int.reduceToNat, reduceCtorEq, Int.reduceEq, Int.reduceLT, Int.reduceLE, Int.reduceAdd, Int.reduceSub, Int.reduceMul, Int.reduceNeg, MV.top, kt_5, ti1, ti2, ti3, ti4, ti5, ti6, ti22, ti23, ti25, ti27, ti30, ti32, ti45, ti97, eqt27, eqt30, strm]
    | refine And.intro ?_ ?_
    | (refine hK _ ?_; clear hK K)
    | (refine hK _ ?_ ?_ <;> clear hK K)
    | apply_assumption (exfalso := false) (symm := false) only [*]
    | refine runQ_gC rfl (fun K hK => ?_)
    | refine runQ_gS rfl rfl ?_
    | refine runQ_gU rfl rfl ?_
    | (refine runQ_gT rfl (fun hc K hK => ?_) (fun hc => ?_) <;> first | (exfalso; omega) | skip)
    | (refine runQ_gF rfl (fun hc K hK => ?_) (fun hc => ?_) <;> first | (exfalso; omega) | skip)
    | refine runQ_guard rfl (fun hc K hK => ?_) (fun hc => ?_)
    | refine DrG.take rfl rfl rfl (by kernel_rfl) rfl (fun K hK => ?_)
    | refine DrG.one rfl rfl (by kernel_rfl) (by kernel_rfl) (by kernel_rfl) (fun K hK => ?_)
    | refine DrG.fin rfl (by kernel_rfl) (by kernel_rfl) ?_
    | refine Still.ofR rfl rfl rfl (by kernel_rfl) rfl (fun K hK => ?_)
    | refine DrG.takeW rfl rfl rfl rfl rfl (by kernel_rfl) rfl (fun K hK => ?_)
    | refine DrG.skipW rfl rfl rfl rfl rfl (by kernel_rfl) rfl ?_
    | refine DrG.oneW rfl rfl rfl rfl (by kernel_rfl) (by kernel_rfl) (by kernel_rfl) (fun K hK => ?_)
    | refine DrG.oneS rfl rfl rfl rfl rfl (by kernel_rfl) (by kernel_rfl) (by kernel_rfl) (by simp only [dOk]; omega) (fun K hK => ?_)
    | refine DrG.oneU rfl rfl rfl rfl (by kernel_rfl) (by kernel_rfl) (by kernel_rfl) (by simp only [dOk]; omega) (fun K hK => ?_)
    | refine Still.ofGW rfl rfl rfl rfl (by kernel_rfl) rfl (fun K hK => ?_)
    | refine Still.ofGS rfl rfl rfl rfl (by kernel_rfl) rfl
    | refine DrG.alt rfl (by kernel_rfl) (by kernel_rfl) ?_
    | refine DrH.two rfl rfl (by kernel_rfl) (fun K hK => ?_) ?_
    | refine DrH.one rfl rfl (by kernel_rfl) (fun K hK => ?_)
    | refine calP_box rfl rfl (ep _ rfl) ?_
    | refine PW.seq (fun K hK => ?_)
    | refine PW.ret ?_
    | refine PW.skip ?_
    | refine PW.exit ?_
    | refine PW.block ?_
    | refine PW.condT rfl ?_
    | refine PW.condF rfl ?_
    | (refine PW.condD rfl (fun hc => ?_) (fun hc => ?_) <;> first | (exfalso; omega) | skip)
    | (refine PW.condN rfl (fun hc => ?_) (fun hc => ?_) <;> first | (exfalso; omega) | skip)
    | refine PW.cond rfl (fun hc => ?_) (fun hc => ?_)
    | refine PW.regQ [] ?_
    | refine PW.sdrawG kt_5 sc_5 [] hmix (by kernel_rfl) (fun K hK => ?_)
    | refine PW.drawG sc_5 [] hmix (by kernel_rfl) (fun K hK => ?_)
    | refine PW.label ?_
    | omega
    | (split <;> first | contradiction | skip)
  clear ep
  refine PW.loopN [3, 4, 5, 14, 15] (fun q : Nat × List D3 × Int × List (Option (List Ct)) => ⟨[(3, .sh (.ptr 0 0)), (4, .own 3 (.list (q.2.1.map d3c))), (5, .sh (.int .i64 (efV q.2.1))), (14, .sh (.int .i64 m)), (15, .sh (.int .i64 (q.1 : Int)))], strm ls q.2.2.1 :: q.2.2.2⟩)
    (fun q => (q.1 : Int) ≤ m ∧ q.2.1.length = q.1 ∧ 0 ≤ q.2.2.1 ∧ q.2.2.1 ≤ 20 * q.1 + 20) (fun q => (m - q.1).toNat) (0, [], 1, []) ?_ ⟨by omega, rfl, by decide, by decide⟩ (fun q hq => ?_)
  · simp only [push_cast, ↓reduceIte, Nat.reduceAdd, Nat.reduceSub, Nat.reduceMul, Nat.reduceEqDiff, Nat.reduceLT, Nat.reduceLeDiff, Int.reduceToNat, reduceCtorEq, Int.reduceEq, Int.reduceLT, Int.reduceLE, Int.reduceAdd, Int.reduceSub, Int.reduceMul, Int.reduceNeg, MV.top, kt_5, ti1, ti2, ti3, ti4, ti5, ti6, ti22, ti23, ti25, ti27, ti30, ti32, ti45, ti97, strm]
    rfl
  obtain ⟨i, ds, a, rest⟩ := q
  obtain ⟨h1, h2, h3, h4⟩ := hq
  simp only at h1 h2 h3 h4 ⊢
  by_cases hlt : (i : Int) < m
  · obtain ⟨p, s, f, a2, b1, b2, b3, b4, e1⟩ := Drawn_spec ls a h3 (by omega)
    have e2 := DrawnFault_spec p s f
    have e3 := wrongOr_spec [efV ds, whenV (!drawnOk p s f) 1] (by simp)
    have hsn : firstV [efV ds, whenV (!drawnOk p s f) 1] = efV (ds ++ [(p, s, f)]) := (efV_snoc ds (p, s, f)).symm
    rw [hsn] at e3
    have hap : ds.map d3c ++ [[.int .i64 p, .int .i64 s, .int .i64 f]] = (ds ++ [(p, s, f)]).map d3c := by simp [d3c]
    have hle : ds.length + 1 ≤ 1000000000 := by omega
    have hwi := wrap_nat (i := i) (by omega)
    have hda : ∀ y ∈ ds.map d3c, y.length = 3 := by intro y hy; obtain ⟨z, _, rfl⟩ := List.mem_map.1 hy; rfl
    generalize efV ds = x at *
    clear hsn
    unfold drawnM at e1 e2
    repeat' first
      | exact True.intro
      | refine runQ_step (fun K hK => ?_)
      | refine runQ_end ?_
      | refine PW.sregN kt_5 [] (fun K hK => ?_)
      | simp only [push_cast, ↓reduceIte, Nat.reduceAdd, Nat.reduceSub, Nat.reduceMul, Nat.reduceEqDiff, Nat.reduceLT, Nat.reduceLeDiff, Int.reduceToNat, reduceCtorEq, Int.reduceEq, Int.reduceLT, Int.reduceLE, Int.reduceAdd, Int.reduceSub, Int.reduceMul, Int.reduceNeg, MV.top, kt_5, ti1, ti2, ti3, ti4, ti5, ti6, ti22, ti23, ti25, ti27, ti30, ti32, ti45, ti97, eqt27, eqt30, hlt, hwi, List.length_map, hap]
      | refine And.intro ?_ ?_
      | (refine hK _ ?_; clear hK K)
      | (refine hK _ ?_ ?_ <;> clear hK K)
      | apply_assumption (exfalso := false) (symm := false) only [*]
      | refine runQ_gC rfl (fun K hK => ?_)
      | refine runQ_gS rfl rfl ?_
      | refine runQ_gU rfl rfl ?_
      | (refine runQ_gT rfl (fun hc K hK => ?_) (fun hc => ?_) <;> first | (exfalso; omega) | skip)
      | (refine runQ_gF rfl (fun hc K hK => ?_) (fun hc => ?_) <;> first | (exfalso; omega) | skip)
      | refine runQ_guard rfl (fun hc K hK => ?_) (fun hc => ?_)
      | refine DrG.take rfl rfl rfl (by kernel_rfl) rfl (fun K hK => ?_)
      | refine DrG.one rfl rfl (by kernel_rfl) (by kernel_rfl) (by kernel_rfl) (fun K hK => ?_)
      | refine DrG.fin rfl (by kernel_rfl) (by kernel_rfl) ?_
      | refine Still.ofR rfl rfl rfl (by kernel_rfl) rfl (fun K hK => ?_)
      | refine DrG.takeW rfl rfl rfl rfl rfl (by kernel_rfl) rfl (fun K hK => ?_)
      | refine DrG.skipW rfl rfl rfl rfl rfl (by kernel_rfl) rfl ?_
      | refine DrG.oneW rfl rfl rfl rfl (by kernel_rfl) (by kernel_rfl) (by kernel_rfl) (fun K hK => ?_)
      | refine DrG.oneS rfl rfl rfl rfl rfl (by kernel_rfl) (by kernel_rfl) (by kernel_rfl) (by simp only [dOk]; omega) (fun K hK => ?_)
      | refine DrG.oneU rfl rfl rfl rfl (by kernel_rfl) (by kernel_rfl) (by kernel_rfl) (by simp only [dOk]; omega) (fun K hK => ?_)
      | refine Still.ofGW rfl rfl rfl rfl (by kernel_rfl) rfl (fun K hK => ?_)
      | refine Still.ofGS rfl rfl rfl rfl (by kernel_rfl) rfl
      | refine DrG.alt rfl (by kernel_rfl) (by kernel_rfl) ?_
      | refine DrH.two rfl rfl (by kernel_rfl) (fun K hK => ?_) ?_
      | refine DrH.one rfl rfl (by kernel_rfl) (fun K hK => ?_)
      | refine calP_box rfl rfl (e1 _ 0 rfl) ?_
      | refine calP_lent rfl rfl e2 rfl ?_
      | refine calP_lent rfl rfl e3 rfl ?_
      | refine PW.seq (fun K hK => ?_)
      | refine PW.ret ?_
      | refine PW.skip ?_
      | refine PW.exit ?_
      | refine PW.block ?_
      | refine PW.condT rfl ?_
      | refine PW.condF rfl ?_
      | (refine PW.condD rfl (fun hc => ?_) (fun hc => ?_) <;> first | (exfalso; omega) | skip)
      | (refine PW.condN rfl (fun hc => ?_) (fun hc => ?_) <;> first | (exfalso; omega) | skip)
      | refine PW.cond rfl (fun hc => ?_) (fun hc => ?_)
      | refine PW.regQ [] ?_
      | refine PW.sdrawG kt_5 sc_5 [] hmix (by kernel_rfl) (fun K hK => ?_)
      | refine PW.drawG sc_5 [] hmix (by kernel_rfl) (fun K hK => ?_)
      | refine PW.label ?_
      | omega
      | (split <;> first | contradiction | skip)
    all_goals exact ⟨(i + 1, ds ++ [(p, s, f)], a2, rest ++ [some [.sh (.int .i64 p), .sh (.int .i64 s), .sh (.int .i64 f)]]), rfl, ⟨by dsimp only; omega, by simp [h2], by dsimp only; omega, by dsimp only; omega⟩, by dsimp only; omega⟩
  · have ed := drawn_spec
    by_cases h5 : 5 < ds.length
    · have h5i : (5 : Int) < ds.length := by omega
      have e1 := Estimate_big ds h5
      unfold d3s fracV at e1
      repeat' first
        | exact True.intro
        | refine runQ_step (fun K hK => ?_)
        | refine runQ_end ?_
        | refine PW.sregN kt_5 [] (fun K hK => ?_)
        | simp only [push_cast, ↓reduceIte, Nat.reduceAdd, Nat.reduceSub, Nat.reduceMul, Nat.reduceEqDiff, Nat.reduceLT, Nat.reduceLeDiff, Int.reduceToNat, reduceCtorEq, Int.reduceEq, Int.reduceLT, Int.reduceLE, Int.reduceAdd, Int.reduceSub, Int.reduceMul, Int.reduceNeg, MV.top, kt_5, ti1, ti2, ti3, ti4, ti5, ti6, ti22, ti23, ti25, ti27, ti30, ti32, ti45, ti97, eqt27, eqt30, hlt, h5i, List.length_map]
        | refine And.intro ?_ ?_
        | (refine hK _ ?_; clear hK K)
        | (refine hK _ ?_ ?_ <;> clear hK K)
        | apply_assumption (exfalso := false) (symm := false) only [*]
        | refine runQ_gC rfl (fun K hK => ?_)
        | refine runQ_gS rfl rfl ?_
        | refine runQ_gU rfl rfl ?_
        | (refine runQ_gT rfl (fun hc K hK => ?_) (fun hc => ?_) <;> first | (exfalso; omega) | skip)
        | (refine runQ_gF rfl (fun hc K hK => ?_) (fun hc => ?_) <;> first | (exfalso; omega) | skip)
        | refine runQ_guard rfl (fun hc K hK => ?_) (fun hc => ?_)
        | refine DrG.take rfl rfl rfl (by kernel_rfl) rfl (fun K hK => ?_)
        | refine DrG.one rfl rfl (by kernel_rfl) (by kernel_rfl) (by kernel_rfl) (fun K hK => ?_)
        | refine DrG.fin rfl (by kernel_rfl) (by kernel_rfl) ?_
        | refine Still.ofR rfl rfl rfl (by kernel_rfl) rfl (fun K hK => ?_)
        | refine DrG.takeW rfl rfl rfl rfl rfl (by kernel_rfl) rfl (fun K hK => ?_)
        | refine DrG.skipW rfl rfl rfl rfl rfl (by kernel_rfl) rfl ?_
        | refine DrG.oneW rfl rfl rfl rfl (by kernel_rfl) (by kernel_rfl) (by kernel_rfl) (fun K hK => ?_)
        | refine DrG.oneS rfl rfl rfl rfl rfl (by kernel_rfl) (by kernel_rfl) (by kernel_rfl) (by simp only [dOk]; omega) (fun K hK => ?_)
        | refine DrG.oneU rfl rfl rfl rfl (by kernel_rfl) (by kernel_rfl) (by kernel_rfl) (by simp only [dOk]; omega) (fun K hK => ?_)
        | refine Still.ofGW rfl rfl rfl rfl (by kernel_rfl) rfl (fun K hK => ?_)
        | refine Still.ofGS rfl rfl rfl rfl (by kernel_rfl) rfl
        | refine DrG.alt rfl (by kernel_rfl) (by kernel_rfl) ?_
        | refine DrH.two rfl rfl (by kernel_rfl) (fun K hK => ?_) ?_
        | refine DrH.one rfl rfl (by kernel_rfl) (fun K hK => ?_)
        | refine calP_lent rfl rfl e1 rfl ?_
        | refine calP_lent rfl rfl ed rfl ?_
        | refine PW.seq (fun K hK => ?_)
        | refine PW.ret ?_
        | refine PW.skip ?_
        | refine PW.exit ?_
        | refine PW.block ?_
        | refine PW.condT rfl ?_
        | refine PW.condF rfl ?_
        | (refine PW.condD rfl (fun hc => ?_) (fun hc => ?_) <;> first | (exfalso; omega) | skip)
        | (refine PW.condN rfl (fun hc => ?_) (fun hc => ?_) <;> first | (exfalso; omega) | skip)
        | refine PW.cond rfl (fun hc => ?_) (fun hc => ?_)
        | refine PW.regQ [] ?_
        | refine PW.sdrawG kt_5 sc_5 [] hmix (by kernel_rfl) (fun K hK => ?_)
        | refine PW.drawG sc_5 [] hmix (by kernel_rfl) (fun K hK => ?_)
        | refine PW.label ?_
        | omega
        | (split <;> first | contradiction | skip)
    · have h5i : ¬ (5 : Int) < ds.length := by omega
      have e1 := Estimate_spec ds h5
      by_cases hz : efV ds = 0
      · have e2 := EstimateOf_spec ds (by omega) hz
        have hN : estN ds = (estV ds).1 := by unfold estN; rw [if_pos hz]
        have hD : estD ds = (estV ds).2 := by unfold estD; rw [if_pos hz]
        rw [hN, hD, hz] at e1
        rw [hz]
        unfold d3s fracV at e1 e2
        repeat' first
          | exact True.intro
          | refine runQ_step (fun K hK => ?_)
          | refine runQ_end ?_
          | refine PW.sregN kt_5 [] (fun K hK => ?_)
          | simp only [push_cast, ↓reduceIte, Nat.reduceAdd, Nat.reduceSub, Nat.reduceMul, Nat.reduceEqDiff, Nat.reduceLT, Nat.reduceLeDiff, Int.reduceToNat, reduceCtorEq, Int.reduceEq, Int.reduceLT, Int.reduceLE, Int.reduceAdd, Int.reduceSub, Int.reduceMul, Int.reduceNeg, MV.top, kt_5, ti1, ti2, ti3, ti4, ti5, ti6, ti22, ti23, ti25, ti27, ti30, ti32, ti45, ti97, eqt27, eqt30, hlt, h5i, List.length_map]
          | refine And.intro ?_ ?_
          | (refine hK _ ?_; clear hK K)
          | (refine hK _ ?_ ?_ <;> clear hK K)
          | apply_assumption (exfalso := false) (symm := false) only [*]
          | refine runQ_gC rfl (fun K hK => ?_)
          | refine runQ_gS rfl rfl ?_
          | refine runQ_gU rfl rfl ?_
          | (refine runQ_gT rfl (fun hc K hK => ?_) (fun hc => ?_) <;> first | (exfalso; omega) | skip)
          | (refine runQ_gF rfl (fun hc K hK => ?_) (fun hc => ?_) <;> first | (exfalso; omega) | skip)
          | refine runQ_guard rfl (fun hc K hK => ?_) (fun hc => ?_)
          | refine DrG.take rfl rfl rfl (by kernel_rfl) rfl (fun K hK => ?_)
          | refine DrG.one rfl rfl (by kernel_rfl) (by kernel_rfl) (by kernel_rfl) (fun K hK => ?_)
          | refine DrG.fin rfl (by kernel_rfl) (by kernel_rfl) ?_
          | refine Still.ofR rfl rfl rfl (by kernel_rfl) rfl (fun K hK => ?_)
          | refine DrG.takeW rfl rfl rfl rfl rfl (by kernel_rfl) rfl (fun K hK => ?_)
          | refine DrG.skipW rfl rfl rfl rfl rfl (by kernel_rfl) rfl ?_
          | refine DrG.oneW rfl rfl rfl rfl (by kernel_rfl) (by kernel_rfl) (by kernel_rfl) (fun K hK => ?_)
          | refine DrG.oneS rfl rfl rfl rfl rfl (by kernel_rfl) (by kernel_rfl) (by kernel_rfl) (by simp only [dOk]; omega) (fun K hK => ?_)
          | refine DrG.oneU rfl rfl rfl rfl (by kernel_rfl) (by kernel_rfl) (by kernel_rfl) (by simp only [dOk]; omega) (fun K hK => ?_)
          | refine Still.ofGW rfl rfl rfl rfl (by kernel_rfl) rfl (fun K hK => ?_)
          | refine Still.ofGS rfl rfl rfl rfl (by kernel_rfl) rfl
          | refine DrG.alt rfl (by kernel_rfl) (by kernel_rfl) ?_
          | refine DrH.two rfl rfl (by kernel_rfl) (fun K hK => ?_) ?_
          | refine DrH.one rfl rfl (by kernel_rfl) (fun K hK => ?_)
          | refine calP_lent rfl rfl e1 rfl ?_
          | refine calP_lent rfl rfl e2 rfl ?_
          | refine calP_lent rfl rfl ed rfl ?_
          | refine PW.seq (fun K hK => ?_)
          | refine PW.ret ?_
          | refine PW.skip ?_
          | refine PW.exit ?_
          | refine PW.block ?_
          | refine PW.condT rfl ?_
          | refine PW.condF rfl ?_
          | (refine PW.condD rfl (fun hc => ?_) (fun hc => ?_) <;> first | (exfalso; omega) | skip)
          | (refine PW.condN rfl (fun hc => ?_) (fun hc => ?_) <;> first | (exfalso; omega) | skip)
          | refine PW.cond rfl (fun hc => ?_) (fun hc => ?_)
          | refine PW.regQ [] ?_
          | refine PW.sdrawG kt_5 sc_5 [] hmix (by kernel_rfl) (fun K hK => ?_)
          | refine PW.drawG sc_5 [] hmix (by kernel_rfl) (fun K hK => ?_)
          | refine PW.label ?_
          | omega
          | (split <;> first | contradiction | skip)
      · have hN : estN ds = 0 := by unfold estN; rw [if_neg hz]
        have hD : estD ds = 0 := by unfold estD; rw [if_neg hz]
        rw [hN, hD] at e1
        generalize efV ds = x at *
        unfold d3s fracV at e1
        repeat' first
          | exact True.intro
          | refine runQ_step (fun K hK => ?_)
          | refine runQ_end ?_
          | refine PW.sregN kt_5 [] (fun K hK => ?_)
          | simp only [push_cast, ↓reduceIte, Nat.reduceAdd, Nat.reduceSub, Nat.reduceMul, Nat.reduceEqDiff, Nat.reduceLT, Nat.reduceLeDiff, Int.reduceToNat, reduceCtorEq, Int.reduceEq, Int.reduceLT, Int.reduceLE, Int.reduceAdd, Int.reduceSub, Int.reduceMul, Int.reduceNeg, MV.top, kt_5, ti1, ti2, ti3, ti4, ti5, ti6, ti22, ti23, ti25, ti27, ti30, ti32, ti45, ti97, eqt27, eqt30, hlt, h5i, hz, List.length_map]
          | refine And.intro ?_ ?_
          | (refine hK _ ?_; clear hK K)
          | (refine hK _ ?_ ?_ <;> clear hK K)
          | apply_assumption (exfalso := false) (symm := false) only [*]
          | refine runQ_gC rfl (fun K hK => ?_)
          | refine runQ_gS rfl rfl ?_
          | refine runQ_gU rfl rfl ?_
          | (refine runQ_gT rfl (fun hc K hK => ?_) (fun hc => ?_) <;> first | (exfalso; omega) | skip)
          | (refine runQ_gF rfl (fun hc K hK => ?_) (fun hc => ?_) <;> first | (exfalso; omega) | skip)
          | refine runQ_guard rfl (fun hc K hK => ?_) (fun hc => ?_)
          | refine DrG.take rfl rfl rfl (by kernel_rfl) rfl (fun K hK => ?_)
          | refine DrG.one rfl rfl (by kernel_rfl) (by kernel_rfl) (by kernel_rfl) (fun K hK => ?_)
          | refine DrG.fin rfl (by kernel_rfl) (by kernel_rfl) ?_
          | refine Still.ofR rfl rfl rfl (by kernel_rfl) rfl (fun K hK => ?_)
          | refine DrG.takeW rfl rfl rfl rfl rfl (by kernel_rfl) rfl (fun K hK => ?_)
          | refine DrG.skipW rfl rfl rfl rfl rfl (by kernel_rfl) rfl ?_
          | refine DrG.oneW rfl rfl rfl rfl (by kernel_rfl) (by kernel_rfl) (by kernel_rfl) (fun K hK => ?_)
          | refine DrG.oneS rfl rfl rfl rfl rfl (by kernel_rfl) (by kernel_rfl) (by kernel_rfl) (by simp only [dOk]; omega) (fun K hK => ?_)
          | refine DrG.oneU rfl rfl rfl rfl (by kernel_rfl) (by kernel_rfl) (by kernel_rfl) (by simp only [dOk]; omega) (fun K hK => ?_)
          | refine Still.ofGW rfl rfl rfl rfl (by kernel_rfl) rfl (fun K hK => ?_)
          | refine Still.ofGS rfl rfl rfl rfl (by kernel_rfl) rfl
          | refine DrG.alt rfl (by kernel_rfl) (by kernel_rfl) ?_
          | refine DrH.two rfl rfl (by kernel_rfl) (fun K hK => ?_) ?_
          | refine DrH.one rfl rfl (by kernel_rfl) (fun K hK => ?_)
          | refine calP_lent rfl rfl e1 rfl ?_
          | refine calP_lent rfl rfl ed rfl ?_
          | refine PW.seq (fun K hK => ?_)
          | refine PW.ret ?_
          | refine PW.skip ?_
          | refine PW.exit ?_
          | refine PW.block ?_
          | refine PW.condT rfl ?_
          | refine PW.condF rfl ?_
          | (refine PW.condD rfl (fun hc => ?_) (fun hc => ?_) <;> first | (exfalso; omega) | skip)
          | (refine PW.condN rfl (fun hc => ?_) (fun hc => ?_) <;> first | (exfalso; omega) | skip)
          | refine PW.cond rfl (fun hc => ?_) (fun hc => ?_)
          | refine PW.regQ [] ?_
          | refine PW.sdrawG kt_5 sc_5 [] hmix (by kernel_rfl) (fun K hK => ?_)
          | refine PW.drawG sc_5 [] hmix (by kernel_rfl) (fun K hK => ?_)
          | refine PW.label ?_
          | omega
          | (split <;> first | contradiction | skip)
end Go.Pv

