/- The law SampleDepths. -/
import Derived.Test.YtoakchnegkmepaaF20
set_option linter.unusedSimpArgs false
set_option linter.unusedVariables false
set_option maxRecDepth 100000
set_option maxHeartbeats 1500000
namespace Go.Pv
open Go Go.Proofs
attribute [local irreducible] PW Dr DrS DrN DrG DrH Spec SpecB runQ opP calP gdP Still

/-- Plans for open orders. -/
def sc_51 : List (Nat × Sc) := [(4, .take 0 (.take 1 (.take 2 (.take 4 (.take 5 (.take 7 (.take 8 (.take 9 (.one 3 [9, 8, 7, 5, 4, 1, 0] (.take 6 (.one 10 [6, 8, 7, 5, 4, 1, 0] (.take 11 (.take 12 (.fin))))))))))))))]
/-- What is read later. -/
def kt_51 : List (Nat × List Nat) := [(0, [0, 3]), (1, [0, 3, 8, 9]), (2, [0, 3, 8, 9, 10]), (3, [0, 3, 5, 8, 9]), (4, [0, 3, 5, 8, 9, 24]), (5, [4]), (6, [0, 3, 8, 9]), (7, [4])]
theorem DepthOf2_spec (bs : List Bool) (n d : Int) (hl : bs.length ≤ 2000) (h : shareOk n d = true) : Spec Try.prog 51 [bools bs, fracV n d] [(none, .int .i64 (depthR bs n d))] := by
  have hb : (1 ≤ d ∧ d ≤ 1000000) ∧ (0 ≤ n ∧ n ≤ d) := by simpa [shareOk, inV] using h
  have hc := cnt_bd bs
  have e2 := AllOf_spec bs (by omega)
  have e1 := fun i => AllOf_spec (bs.take i) (by rw [List.length_take]; omega)
  have hwb := mul_bd hb.2.1 (show n ≤ 1000000 by omega) hc.1 (show cnt bs ≤ 2000 by omega)
  have hw1 : IntKind.i64.wrap (n * cnt bs) = n * cnt bs := wrap_id (by omega) (by omega)
  have hrv : depthR bs n d = if idxV (wantB (n * cnt bs) d) (preL bs) 0 < 0 then 0 else idxV (wantB (n * cnt bs) d) (preL bs) 0 := rfl
  have hpl : (preL bs).length = bs.length + 1 := by simp [preL, gainsL_len]
  have hll : IntKind.i64.wrap ((bs.length : Int) + 1) = bs.length + 1 := wrap_id (by omega) (by omega)
  generalize hw : n * cnt bs = w at *
  generalize depthR bs n d = dv at *
  unfold bools fracV at *
  refine spec_of (nt := 27) (rs := [.tmp 4]) Try.func51 rfl rfl rfl rfl (by simp) (by simp [np]) (fun B => ?_)
  repeat' first
    | exact True.intro
    | refine runQ_step (fun K hK => ?_)
    | refine runQ_end ?_
    | refine PW.sregN kt_51 [3] (fun K hK => ?_)
    | simp only [push_cast, ↓reduceIte, Nat.reduceAdd, Nat.reduceSub, Nat.reduceMul, Nat.reduceEqDiff, Nat.reduceLT, Nat.reduceLeDiff, Int.reduceToNat, reduceCtorEq, Int.reduceEq, Int.reduceLT, Int.reduceLE, Int.reduceAdd, Int.reduceSub, Int.reduceMul, Int.reduceNeg, MV.top, kt_51, ti1, ti3, ti4, ti30, ti69, eqt30, List.length_map, hll]
    | refine And.intro ?_ ?_
    | (refine hK _ ?_; clear hK K)
    | (refine hK _ ?_ ?_ <;> clear hK K)
    | apply_assumption (exfalso := false) (symm := false) only [*]
    | refine DrG.take rfl rfl rfl (by kernel_rfl) rfl (fun K hK => ?_)
    | refine DrG.one rfl rfl (by kernel_rfl) (by kernel_rfl) (by kernel_rfl) (fun K hK => ?_)
    | refine DrG.fin rfl (by kernel_rfl) (by kernel_rfl) ?_
    | refine Still.ofR rfl rfl rfl (by kernel_rfl) rfl (fun K hK => ?_)
    | refine PW.seq (fun K hK => ?_)
    | refine PW.ret ?_
    | refine PW.skip ?_
    | refine PW.exit ?_
    | refine PW.block ?_
    | refine PW.condT rfl ?_
    | refine PW.condF rfl ?_
    | (refine PW.condD rfl (fun hc => ?_) (fun hc => ?_) <;> first | (exfalso; omega) | skip)
    | (refine PW.condN rfl (fun hc => ?_) (fun hc => ?_) <;> first | (exfalso; omega) | skip)
    | refine PW.cond rfl (fun hc => ?_) (fun hc => ?_)
    | refine PW.regQ [3] ?_
    | refine PW.sdrawG kt_51 sc_51 [3] hmix (by kernel_rfl) (fun K hK => ?_)
    | refine PW.drawG sc_51 [3] hmix (by kernel_rfl) (fun K hK => ?_)
    | refine PW.label ?_
    | omega
    | (split <;> first | contradiction | skip)
  refine PW.loopN [0, 3, 8, 9] (fun i : Nat => ⟨[(0, .sh (.list (bs.map boolc))), (3, .sh (.cptr [.int .i64 n, .int .i64 d] 0)), (8, .sh (.int .i64 ((bs.length : Int) + 1))), (9, .sh (.int .i64 (i : Int)))], B⟩) (fun i => i ≤ bs.length + 1 ∧ idxV (wantB w d) ((preL bs).drop i) i = idxV (wantB w d) (preL bs) 0) (fun i => bs.length + 1 - i) 0 ?_ ⟨Nat.zero_le _, rfl⟩ (fun i hi => ?_)
  · simp only [push_cast, ↓reduceIte, Nat.reduceAdd, Nat.reduceSub, Nat.reduceMul, Nat.reduceEqDiff, Nat.reduceLT, Nat.reduceLeDiff, Int.reduceToNat, reduceCtorEq, Int.reduceEq, Int.reduceLT, Int.reduceLE, Int.reduceAdd, Int.reduceSub, Int.reduceMul, Int.reduceNeg, MV.top, kt_51, ti1, ti3, ti4, ti30, ti69, hll]
  obtain ⟨h1, h2⟩ := hi
  by_cases hlt : i < bs.length + 1
  · have hlt2 : (i : Int) < (bs.length : Int) + 1 := by omega
    have hip : i < (preL bs).length := by omega
    have hd := idxV_drop (p := wantB w d) hip
    rw [preL_get (by omega)] at hd
    rw [hd] at h2
    clear hd
    have e3 := e1 i
    clear e1
    have hci := cnt_take bs i
    have hmb := mul_bd hci.1 (show cnt (bs.take i) ≤ 2000 by omega) (show 0 ≤ d by omega) hb.1.2
    have hw2 : IntKind.i64.wrap (cnt (bs.take i) * d) = cnt (bs.take i) * d := wrap_id (by omega) (by omega)
    have hwi := wrap_nat (i := i) (by omega)
    have hle : (i : Int) ≤ bs.length := by omega
    have hsz : ∀ e, (bs.map boolc)[0]? = some e → e.length = 1 := by
      intro e he
      obtain ⟨x, _, rfl⟩ := List.mem_map.1 (List.mem_of_getElem? he)
      rfl
    have hmt : (bs.map boolc).take i = (bs.take i).map boolc := by rw [List.map_take]
    have hi0 : (0 : Int) ≤ i := by omega
    by_cases hq : w ≤ cnt (bs.take i) * d
    · rw [if_pos (by simp [wantB, hq])] at h2
      have hdv : dv = i := by rw [hrv, ← h2, if_neg (by omega)]
      rw [hdv]
      clear hrv h2 hdv
      repeat' first
        | exact True.intro
        | refine runQ_step (fun K hK => ?_)
        | refine runQ_end ?_
        | refine PW.sregN kt_51 [3] (fun K hK => ?_)
        | simp only [push_cast, ↓reduceIte, Nat.reduceAdd, Nat.reduceSub, Nat.reduceMul, Nat.reduceEqDiff, Nat.reduceLT, Nat.reduceLeDiff, Int.reduceToNat, reduceCtorEq, Int.reduceEq, Int.reduceLT, Int.reduceLE, Int.reduceAdd, Int.reduceSub, Int.reduceMul, Int.reduceNeg, MV.top, kt_51, ti1, ti3, ti4, ti30, ti69, eqt30, hlt2, hw, hw1, hw2, hq, hmt, hle, hsz, hi0, List.length_map, Int.toNat_natCast, Nat.sub_zero]
        | refine And.intro ?_ ?_
        | (refine hK _ ?_; clear hK K)
        | (refine hK _ ?_ ?_ <;> clear hK K)
        | apply_assumption (exfalso := false) (symm := false) only [*]
        | refine DrG.take rfl rfl rfl (by kernel_rfl) rfl (fun K hK => ?_)
        | refine DrG.one rfl rfl (by kernel_rfl) (by kernel_rfl) (by kernel_rfl) (fun K hK => ?_)
        | refine DrG.fin rfl (by kernel_rfl) (by kernel_rfl) ?_
        | refine Still.ofR rfl rfl rfl (by kernel_rfl) rfl (fun K hK => ?_)
        | refine calP_lent rfl rfl e3 rfl ?_
        | refine calP_lent rfl rfl e2 rfl ?_
        | refine PW.seq (fun K hK => ?_)
        | refine PW.ret ?_
        | refine PW.skip ?_
        | refine PW.exit ?_
        | refine PW.block ?_
        | refine PW.condT rfl ?_
        | refine PW.condF rfl ?_
        | (refine PW.condD rfl (fun hc => ?_) (fun hc => ?_) <;> first | (exfalso; omega) | skip)
        | (refine PW.condN rfl (fun hc => ?_) (fun hc => ?_) <;> first | (exfalso; omega) | skip)
        | refine PW.cond rfl (fun hc => ?_) (fun hc => ?_)
        | refine PW.regQ [3] ?_
        | refine PW.sdrawG kt_51 sc_51 [3] hmix (by kernel_rfl) (fun K hK => ?_)
        | refine PW.drawG sc_51 [3] hmix (by kernel_rfl) (fun K hK => ?_)
        | refine PW.label ?_
        | omega
        | (split <;> first | contradiction | skip)
    · rw [if_neg (by simp [wantB, hq])] at h2
      clear hrv
      repeat' first
        | exact True.intro
        | refine runQ_step (fun K hK => ?_)
        | refine runQ_end ?_
        | refine PW.sregN kt_51 [3] (fun K hK => ?_)
        | simp only [push_cast, ↓reduceIte, Nat.reduceAdd, Nat.reduceSub, Nat.reduceMul, Nat.reduceEqDiff, Nat.reduceLT, Nat.reduceLeDiff, Int.reduceToNat, reduceCtorEq, Int.reduceEq, Int.reduceLT, Int.reduceLE, Int.reduceAdd, Int.reduceSub, Int.reduceMul, Int.reduceNeg, MV.top, kt_51, ti1, ti3, ti4, ti30, ti69, eqt30, hlt2, hw, hw1, hw2, hq, hmt, hle, hsz, hi0, hwi, List.length_map, Int.toNat_natCast, Nat.sub_zero]
        | refine And.intro ?_ ?_
        | (refine hK _ ?_; clear hK K)
        | (refine hK _ ?_ ?_ <;> clear hK K)
        | apply_assumption (exfalso := false) (symm := false) only [*]
        | refine DrG.take rfl rfl rfl (by kernel_rfl) rfl (fun K hK => ?_)
        | refine DrG.one rfl rfl (by kernel_rfl) (by kernel_rfl) (by kernel_rfl) (fun K hK => ?_)
        | refine DrG.fin rfl (by kernel_rfl) (by kernel_rfl) ?_
        | refine Still.ofR rfl rfl rfl (by kernel_rfl) rfl (fun K hK => ?_)
        | refine calP_lent rfl rfl e3 rfl ?_
        | refine calP_lent rfl rfl e2 rfl ?_
        | refine PW.seq (fun K hK => ?_)
        | refine PW.ret ?_
        | refine PW.skip ?_
        | refine PW.exit ?_
        | refine PW.block ?_
        | refine PW.condT rfl ?_
        | refine PW.condF rfl ?_
        | (refine PW.condD rfl (fun hc => ?_) (fun hc => ?_) <;> first | (exfalso; omega) | skip)
        | (refine PW.condN rfl (fun hc => ?_) (fun hc => ?_) <;> first | (exfalso; omega) | skip)
        | refine PW.cond rfl (fun hc => ?_) (fun hc => ?_)
        | refine PW.regQ [3] ?_
        | refine PW.sdrawG kt_51 sc_51 [3] hmix (by kernel_rfl) (fun K hK => ?_)
        | refine PW.drawG sc_51 [3] hmix (by kernel_rfl) (fun K hK => ?_)
        | refine PW.label ?_
        | omega
        | (split <;> first | contradiction | skip)
      all_goals exact ⟨i + 1, rfl, ⟨by omega, h2⟩, by omega⟩
  · have hlt2 : ¬ (i : Int) < (bs.length : Int) + 1 := by omega
    rw [List.drop_of_length_le (by omega)] at h2
    have hdv : dv = 0 := by rw [hrv, ← h2]; rfl
    rw [hdv]
    repeat' first
      | exact True.intro
      | refine runQ_step (fun K hK => ?_)
      | refine runQ_end ?_
      | refine PW.sregN kt_51 [3] (fun K hK => ?_)
      | simp only [push_cast, ↓reduceIte, Nat.reduceAdd, Nat.reduceSub, Nat.reduceMul, Nat.reduceEqDiff, Nat.reduceLT, Nat.reduceLeDiff, Int.reduceToNat, reduceCtorEq, Int.reduceEq, Int.reduceLT, Int.reduceLE, Int.reduceAdd, Int.reduceSub, Int.reduceMul, Int.reduceNeg, MV.top, kt_51, ti1, ti3, ti4, ti30, ti69, eqt30, hlt2]
      | refine And.intro ?_ ?_
      | (refine hK _ ?_; clear hK K)
      | (refine hK _ ?_ ?_ <;> clear hK K)
      | apply_assumption (exfalso := false) (symm := false) only [*]
      | refine DrG.take rfl rfl rfl (by kernel_rfl) rfl (fun K hK => ?_)
      | refine DrG.one rfl rfl (by kernel_rfl) (by kernel_rfl) (by kernel_rfl) (fun K hK => ?_)
      | refine DrG.fin rfl (by kernel_rfl) (by kernel_rfl) ?_
      | refine Still.ofR rfl rfl rfl (by kernel_rfl) rfl (fun K hK => ?_)
      | refine PW.seq (fun K hK => ?_)
      | refine PW.ret ?_
      | refine PW.skip ?_
      | refine PW.exit ?_
      | refine PW.block ?_
      | refine PW.condT rfl ?_
      | refine PW.condF rfl ?_
      | (refine PW.condD rfl (fun hc => ?_) (fun hc => ?_) <;> first | (exfalso; omega) | skip)
      | (refine PW.condN rfl (fun hc => ?_) (fun hc => ?_) <;> first | (exfalso; omega) | skip)
      | refine PW.cond rfl (fun hc => ?_) (fun hc => ?_)
      | refine PW.regQ [3] ?_
      | refine PW.sdrawG kt_51 sc_51 [3] hmix (by kernel_rfl) (fun K hK => ?_)
      | refine PW.drawG sc_51 [3] hmix (by kernel_rfl) (fun K hK => ?_)
      | refine PW.label ?_
      | omega
      | (split <;> first | contradiction | skip)

/-- What is read later. -/
def kt_9 : List (Nat × List Nat) := [(0, [0]), (1, [3, 11]), (2, [4, 5, 13]), (3, [4, 5, 6, 7, 13]), (4, [4, 5, 6, 7, 8, 13]), (5, [4, 5, 6, 7, 8, 13, 25]), (6, [2]), (7, [2])]
theorem SampleDepths_spec (ls : List Int) : Spec Try.prog 9 [ints ls] [(none, .bool true)] := by
  have hnp := np_ints ls
  obtain ⟨bs, a2, hl, ha, e1⟩ := Relevant_spec ls 0 (by omega) (by omega)
  obtain ⟨n, d, e2⟩ := Share_spec ls a2 (by omega) (by omega)
  have e3 := ShareFault_spec n d
  have ed := drawn_spec
  cases hk : shareOk n d with
  | false =>
    have e4 := Depth_bad bs n d (by omega) hk
    rw [hk] at e3
    unfold ints bools fracV at *
    refine spec_of0 (nt := 48) (rs := [.tmp 2]) Try.func9 rfl rfl rfl rfl (by simp) (by simp [np]) (by intro x hx; simp only [List.mem_cons, List.not_mem_nil, or_false] at hx; subst hx; exact hnp) ?_
    clear hnp
    repeat' first
      | exact True.intro
      | refine runQ_step (fun K hK => ?_)
      | refine runQ_end ?_
      | refine PW.sregN kt_9 [] (fun K hK => ?_)
      | simp only [push_cast, ↓reduceIte, Nat.reduceAdd, Nat.reduceSub, Nat.reduceMul, Nat.reduceEqDiff, Nat.reduceLT, Nat.reduceLeDiff, Int.reduceToNat, reduceCtorEq, Int.reduceEq, Int.reduceLT, Int.reduceLE, Int.reduceAdd, Int.reduceSub, Int.reduceMul, Int.reduceNeg, MV.top, kt_9, ti1, ti3, ti4, ti22, ti23, ti25, ti30, ti32, ti69, eqt30, strm, whenV]
      | refine And.intro ?_ ?_
      | (refine hK _ ?_; clear hK K)
      | (refine hK _ ?_ ?_ <;> clear hK K)
      | apply_assumption (exfalso := false) (symm := false) only [*]
      | refine runQ_gC rfl (fun K hK => ?_)
      | refine runQ_gS rfl rfl ?_
      | refine runQ_gU rfl rfl ?_
      | (refine runQ_gT rfl (fun hc K hK => ?_) (fun hc => ?_) <;> first | (exfalso; omega) | skip)
      | (refine runQ_gF rfl (fun hc K hK => ?_) (fun hc => ?_) <;> first | (exfalso; omega) | skip)
      | refine runQ_guard rfl (fun hc K hK => ?_) (fun hc => ?_)
      | refine calP_box rfl rfl (e1 _ 0 rfl) ?_
      | refine calP_box rfl rfl (e2 _ 0 rfl) ?_
      | refine calP_lent rfl rfl e3 rfl ?_
      | refine calP_lent rfl rfl e4 rfl ?_
      | refine calP_lent rfl rfl ed rfl ?_
      | refine PW.seq (fun K hK => ?_)
      | refine PW.ret ?_
      | refine PW.skip ?_
      | refine PW.exit ?_
      | refine PW.block ?_
      | refine PW.condT rfl ?_
      | refine PW.condF rfl ?_
      | (refine PW.condD rfl (fun hc => ?_) (fun hc => ?_) <;> first | (exfalso; omega) | skip)
      | (refine PW.condN rfl (fun hc => ?_) (fun hc => ?_) <;> first | (exfalso; omega) | skip)
      | refine PW.cond rfl (fun hc => ?_) (fun hc => ?_)
      | refine PW.regQ [] ?_
      | refine PW.sdrawG kt_9 sc_9 [] hmix (by kernel_rfl) (fun K hK => ?_)
      | refine PW.drawG sc_9 [] hmix (by kernel_rfl) (fun K hK => ?_)
      | refine PW.label ?_
      | omega
      | (split <;> first | contradiction | skip)
  | true =>
    have e4 := Depth_good bs n d (by omega) hk
    have e5 := DepthOf2_spec bs n d (by omega) hk
    rw [← depth_eq bs n d hk] at e5
    generalize depthV bs n d = dv at e4 e5
    rw [hk] at e3
    unfold ints bools fracV at *
    refine spec_of0 (nt := 48) (rs := [.tmp 2]) Try.func9 rfl rfl rfl rfl (by simp) (by simp [np]) (by intro x hx; simp only [List.mem_cons, List.not_mem_nil, or_false] at hx; subst hx; exact hnp) ?_
    clear hnp
    repeat' first
      | exact True.intro
      | refine runQ_step (fun K hK => ?_)
      | refine runQ_end ?_
      | refine PW.sregN kt_9 [] (fun K hK => ?_)
      | simp only [push_cast, ↓reduceIte, Nat.reduceAdd, Nat.reduceSub, Nat.reduceMul, Nat.reduceEqDiff, Nat.reduceLT, Nat.reduceLeDiff, Int.reduceToNat, reduceCtorEq, Int.reduceEq, Int.reduceLT, Int.reduceLE, Int.reduceAdd, Int.reduceSub, Int.reduceMul, Int.reduceNeg, MV.top, kt_9, ti1, ti3, ti4, ti22, ti23, ti25, ti30, ti32, ti69, eqt30, strm, whenV]
      | refine And.intro ?_ ?_
      | (refine hK _ ?_; clear hK K)
      | (refine hK _ ?_ ?_ <;> clear hK K)
      | apply_assumption (exfalso := false) (symm := false) only [*]
      | refine runQ_gC rfl (fun K hK => ?_)
      | refine runQ_gS rfl rfl ?_
      | refine runQ_gU rfl rfl ?_
      | (refine runQ_gT rfl (fun hc K hK => ?_) (fun hc => ?_) <;> first | (exfalso; omega) | skip)
      | (refine runQ_gF rfl (fun hc K hK => ?_) (fun hc => ?_) <;> first | (exfalso; omega) | skip)
      | refine runQ_guard rfl (fun hc K hK => ?_) (fun hc => ?_)
      | refine calP_box rfl rfl (e1 _ 0 rfl) ?_
      | refine calP_box rfl rfl (e2 _ 0 rfl) ?_
      | refine calP_lent rfl rfl e3 rfl ?_
      | refine calP_lent rfl rfl e4 rfl ?_
      | refine calP_lent rfl rfl e5 rfl ?_
      | refine calP_lent rfl rfl ed rfl ?_
      | refine PW.seq (fun K hK => ?_)
      | refine PW.ret ?_
      | refine PW.skip ?_
      | refine PW.exit ?_
      | refine PW.block ?_
      | refine PW.condT rfl ?_
      | refine PW.condF rfl ?_
      | (refine PW.condD rfl (fun hc => ?_) (fun hc => ?_) <;> first | (exfalso; omega) | skip)
      | (refine PW.condN rfl (fun hc => ?_) (fun hc => ?_) <;> first | (exfalso; omega) | skip)
      | refine PW.cond rfl (fun hc => ?_) (fun hc => ?_)
      | refine PW.regQ [] ?_
      | refine PW.sdrawG kt_9 sc_9 [] hmix (by kernel_rfl) (fun K hK => ?_)
      | refine PW.drawG sc_9 [] hmix (by kernel_rfl) (fun K hK => ?_)
      | refine PW.label ?_
      | omega
      | (split <;> first | contradiction | skip)
end Go.Pv

