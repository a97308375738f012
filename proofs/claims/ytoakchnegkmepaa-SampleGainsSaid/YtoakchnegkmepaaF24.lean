/- Contract of gains, the second way. -/
import Derived.Test.YtoakchnegkmepaaF23
set_option linter.unusedSimpArgs false
set_option linter.unusedVariables false
set_option maxRecDepth 100000
set_option maxHeartbeats 1500000
namespace Go.Pv
open Go Go.Proofs
attribute [local irreducible] PW Dr DrS DrN DrG DrH Spec SpecB runQ opP calP gdP Still

def goL (bs : List Bool) (i : Nat) (c : Int) : List Int := (gainsL bs).take i ++ c :: List.replicate (bs.length - i - 1) 0
def outL (xs : List Int) : List (List MV) := xs.map fun x => [MV.int .i64 x]

theorem goL_len {bs : List Bool} {i : Nat} (h : i < bs.length) (c : Int) : (outL (goL bs i c)).length = bs.length := by
  simp [outL, goL, gainsL_len]; omega
theorem goL_get {bs : List Bool} {i : Nat} (h : i < bs.length) (c : Int) : (outL (goL bs i c))[i]? = some [.int .i64 c] := by
  have : ((gainsL bs).take i).length = i := by rw [List.length_take, gainsL_len]; omega
  unfold outL goL
  rw [List.map_append, List.getElem?_append_right (by rw [List.length_map, this]; omega), List.length_map, this, Nat.sub_self]
  rfl
theorem goL_set {bs : List Bool} {i : Nat} (h : i < bs.length) (c d : Int) : (outL (goL bs i c)).set i [.int .i64 d] = outL (goL bs i d) := by
  have : ((gainsL bs).take i).length = i := by rw [List.length_take, gainsL_len]; omega
  unfold outL goL
  rw [List.map_append, List.map_append, List.set_append_right _ _ (by rw [List.length_map, this]; omega), List.length_map, this, Nat.sub_self]
  rfl
theorem go_start {bs : List Bool} {i : Nat} (h : i < bs.length) : outL ((gainsL bs).take i ++ List.replicate (bs.length - i) 0) = outL (goL bs i 0) := by
  unfold goL
  rw [show bs.length - i = (bs.length - i - 1) + 1 by omega, List.replicate_succ]
  rfl
theorem go_end {bs : List Bool} {i : Nat} (h : i < bs.length) : outL (goL bs i (cnt (bs.take (i + 1)))) = outL ((gainsL bs).take (i + 1) ++ List.replicate (bs.length - (i + 1)) 0) := by
  unfold goL
  rw [gainsL_take h, List.append_assoc]
  rfl
theorem go_zero (n : Nat) : List.replicate n [MV.int .i64 0] = outL (List.replicate n 0) := by
  unfold outL; rw [List.map_replicate]

/-- Plans for open orders. -/
def sc_56 : List (Nat × Sc) := [(8, .take 1 (.take 4 (.two 0 [4, 1] (.two 2 [4] (.take 3 (.one 5 [3] (.take 6 (.one 7 [] (.one 8 [] (.fin)))))) (.one 5 [1] (.one 2 [] (.take 3 (.take 6 (.one 7 [] (.one 8 [] (.fin)))))))) (.one 5 [1] (.one 0 [1] (.one 2 [] (.take 3 (.take 6 (.one 7 [] (.one 8 [] (.fin)))))))))))]
/-- What is read later. -/
def kt_56 : List (Nat × List Nat) := [(0, [0]), (1, [0, 3, 9]), (2, [0, 3, 9, 11, 12]), (3, [0, 3, 9, 11, 12, 13]), (4, [0, 3, 4, 9, 11, 12]), (5, [0, 3, 4, 9, 11, 12, 15, 18, 19, 20]), (6, [0, 3, 4, 9, 11, 12, 15, 18, 19, 20, 21]), (7, [0, 3, 4, 6, 9, 11, 12, 15, 18, 19, 20]), (8, [0, 3, 4, 9, 11, 12, 15, 18, 19, 20]), (9, [0, 3, 4, 9, 11, 12, 15, 18, 19, 20]), (10, [0, 3, 9, 11, 12]), (11, [2, 3, 9, 34])]
theorem GainsOf_spec (bs : List Bool) (hl : bs.length ≤ 2000) : Spec Try.prog 56 [bools bs] [(none, ints (gainsL bs))] := by
  have hnp := np_ints (gainsL bs)
  unfold bools ints at *
  refine spec_of (nt := 35) (rs := [.tmp 2]) Try.func56 rfl rfl rfl rfl (by simp) (by intro x hx; simp only [List.mem_cons, List.not_mem_nil, or_false] at hx; subst hx; exact hnp) (fun B => ?_)
  clear hnp
  have hn0 : (0 : Int) ≤ bs.length := by omega
  have hn1 : (bs.length : Int) ≤ 1000000000 := by omega
  repeat' first
    | exact True.intro
    | refine runQ_step (fun K hK => ?_)
    | refine runQ_end ?_
    | refine PW.sregN kt_56 [] (fun K hK => ?_)
    | simp only [push_cast, ↓reduceIte, Nat.reduceAdd, Nat.reduceSub, Nat.reduceMul, Nat.reduceEqDiff, Nat.reduceLT, Nat.reduceLeDiff, Int.reduceToNat, reduceCtorEq, Int.reduceEq, Int.reduceLT, Int.reduceLE, Int.reduceAdd, Int.reduceSub, Int.reduceMul, Int.reduceNeg, MV.top, kt_56, ti3, ti4, ti22, ti69, List.length_map, hn0, hn1, Int.toNat_natCast, go_zero]
    | refine And.intro ?_ ?_
    | (refine hK _ ?_; clear hK K)
    | (refine hK _ ?_ ?_ <;> clear hK K)
    | apply_assumption (exfalso := false) (symm := false) only [*]
    | refine DrG.take rfl rfl rfl (by kernel_rfl) rfl (fun K hK => ?_)
    | refine DrG.one rfl rfl (by kernel_rfl) (by kernel_rfl) (by kernel_rfl) (fun K hK => ?_)
    | refine DrG.fin rfl (by kernel_rfl) (by kernel_rfl) ?_
    | refine Still.ofR rfl rfl rfl (by kernel_rfl) rfl (fun K hK => ?_)
    | refine DrG.alt rfl (by kernel_rfl) (by kernel_rfl) ?_
    | refine DrH.two rfl rfl (by kernel_rfl) (fun K hK => ?_) ?_
    | refine DrH.one rfl rfl (by kernel_rfl) (fun K hK => ?_)
    | refine PW.seq (fun K hK => ?_)
    | refine PW.ret ?_
    | refine PW.skip ?_
    | refine PW.exit ?_
    | refine PW.block ?_
    | refine PW.condT rfl ?_
    | refine PW.condF rfl ?_
    | (refine PW.condD rfl (fun hc => ?_) (fun hc => ?_) <;> first | (exfalso; omega) | skip)
    | (refine PW.condN rfl (fun hc => ?_) (fun hc => ?_) <;> first | (exfalso; omega) | skip)
    | refine PW.cond rfl (fun hc => ?_) (fun hc => ?_)
    | refine PW.regQ [] ?_
    | refine PW.sdrawG kt_56 sc_56 [] hmix (by kernel_rfl) (fun K hK => ?_)
    | refine PW.drawG sc_56 [] hmix (by kernel_rfl) (fun K hK => ?_)
    | refine PW.label ?_
    | omega
    | (split <;> first | contradiction | skip)
  refine PW.loopN [0, 3, 11, 12] (fun i : Nat => ⟨[(0, .sh (.list (bs.map boolc))), (3, .own 1 (.list (outL ((gainsL bs).take i ++ List.replicate (bs.length - i) 0)))), (11, .sh (.int .i64 bs.length)), (12, .sh (.int .i64 (i : Int)))], B⟩) (fun i => i ≤ bs.length) (fun i => bs.length - i) 0 ?_ (Nat.zero_le _) (fun i hi => ?_)
  · simp only [push_cast, ↓reduceIte, Nat.reduceAdd, Nat.reduceSub, Nat.reduceMul, Nat.reduceEqDiff, Nat.reduceLT, Nat.reduceLeDiff, Int.reduceToNat, reduceCtorEq, Int.reduceEq, Int.reduceLT, Int.reduceLE, Int.reduceAdd, Int.reduceSub, Int.reduceMul, Int.reduceNeg, MV.top, kt_56, ti3, ti4, ti22, ti69, List.length_map, go_zero, Nat.sub_zero]
  by_cases hlt : i < bs.length
  · have hlt2 : (i : Int) < bs.length := by omega
    have hwi := wrap_nat (i := i) (by omega)
    have hle : (i : Int) + 1 ≤ bs.length := by omega
    have hsz : ∀ e, (bs.map boolc)[0]? = some e → e.length = 1 := by
      intro e he
      obtain ⟨x, _, rfl⟩ := List.mem_map.1 (List.mem_of_getElem? he)
      rfl
    have hmt : (bs.map boolc).take (i + 1) = (bs.take (i + 1)).map boolc := by rw [List.map_take]
    have hi0 : (0 : Int) ≤ (i : Int) + 1 := by omega
    have htn : ((i : Int) + 1).toNat = i + 1 := by omega
    have htl : (bs.take (i + 1)).length = i + 1 := by rw [List.length_take]; omega
    rw [go_start hlt]
    repeat' first
      | exact True.intro
      | refine runQ_step (fun K hK => ?_)
      | refine runQ_end ?_
      | refine PW.sregN kt_56 [] (fun K hK => ?_)
      | simp only [push_cast, ↓reduceIte, Nat.reduceAdd, Nat.reduceSub, Nat.reduceMul, Nat.reduceEqDiff, Nat.reduceLT, Nat.reduceLeDiff, Int.reduceToNat, reduceCtorEq, Int.reduceEq, Int.reduceLT, Int.reduceLE, Int.reduceAdd, Int.reduceSub, Int.reduceMul, Int.reduceNeg, MV.top, kt_56, ti3, ti4, ti22, ti69, hlt2, hwi, hle, hsz, hmt, hi0, htn, htl, List.length_map, Int.toNat_natCast, Nat.sub_zero]
      | refine And.intro ?_ ?_
      | (refine hK _ ?_; clear hK K)
      | (refine hK _ ?_ ?_ <;> clear hK K)
      | apply_assumption (exfalso := false) (symm := false) only [*]
      | refine DrG.take rfl rfl rfl (by kernel_rfl) rfl (fun K hK => ?_)
      | refine DrG.one rfl rfl (by kernel_rfl) (by kernel_rfl) (by kernel_rfl) (fun K hK => ?_)
      | refine DrG.fin rfl (by kernel_rfl) (by kernel_rfl) ?_
      | refine Still.ofR rfl rfl rfl (by kernel_rfl) rfl (fun K hK => ?_)
      | refine DrG.alt rfl (by kernel_rfl) (by kernel_rfl) ?_
      | refine DrH.two rfl rfl (by kernel_rfl) (fun K hK => ?_) ?_
      | refine DrH.one rfl rfl (by kernel_rfl) (fun K hK => ?_)
      | refine PW.seq (fun K hK => ?_)
      | refine PW.ret ?_
      | refine PW.skip ?_
      | refine PW.exit ?_
      | refine PW.block ?_
      | refine PW.condT rfl ?_
      | refine PW.condF rfl ?_
      | (refine PW.condD rfl (fun hc => ?_) (fun hc => ?_) <;> first | (exfalso; omega) | skip)
      | (refine PW.condN rfl (fun hc => ?_) (fun hc => ?_) <;> first | (exfalso; omega) | skip)
      | refine PW.cond rfl (fun hc => ?_) (fun hc => ?_)
      | refine PW.regQ [] ?_
      | refine PW.sdrawG kt_56 sc_56 [] hmix (by kernel_rfl) (fun K hK => ?_)
      | refine PW.drawG sc_56 [] hmix (by kernel_rfl) (fun K hK => ?_)
      | refine PW.label ?_
      | omega
      | (split <;> first | contradiction | skip)
    refine PW.loopN [0, 3, 4, 11, 12, 18, 19, 20] (fun j : Nat => ⟨[(0, .sh (.list (bs.map boolc))), (3, .own 1 (.list (outL (goL bs i (cnt ((bs.take (i + 1)).take j)))))), (4, .sh (.int .i64 (i : Int))), (11, .sh (.int .i64 bs.length)), (12, .sh (.int .i64 (i : Int))), (18, .sh (.list ((bs.take (i + 1)).map boolc))), (19, .sh (.int .i64 ((i : Int) + 1))), (20, .sh (.int .i64 (j : Int)))], B⟩) (fun j => j ≤ i + 1) (fun j => i + 1 - j) 0 ?_ (Nat.zero_le _) (fun j hj => ?_)
    · simp only [push_cast, ↓reduceIte, Nat.reduceAdd, Nat.reduceSub, Nat.reduceMul, Nat.reduceEqDiff, Nat.reduceLT, Nat.reduceLeDiff, Int.reduceToNat, reduceCtorEq, Int.reduceEq, Int.reduceLT, Int.reduceLE, Int.reduceAdd, Int.reduceSub, Int.reduceMul, Int.reduceNeg, MV.top, kt_56, ti3, ti4, ti22, ti69, htl, hmt, List.length_map]
      rfl
    by_cases hjt : j < i + 1
    · have hjl : j < (bs.take (i + 1)).length := by omega
      have hge := bool_get hjl
      have hjt2 : (j : Int) < (i : Int) + 1 := by omega
      have hc1 := cnt_succ hjl
      have hb := cnt_take (bs.take (i + 1)) j
      have hwj := wrap_nat (i := j) (by omega)
      generalize (bs.take (i + 1))[j] = b at hge hc1
      have e1 := flag_spec b
      generalize hx : (if b = true then (1 : Int) else 0) = x at e1 hc1
      have hx2 : 0 ≤ x ∧ x ≤ 1 := by rw [← hx]; split <;> omega
      have hw2 : IntKind.i64.wrap (cnt ((bs.take (i + 1)).take j) + x) = cnt ((bs.take (i + 1)).take j) + x := wrap_id (by omega) (by omega)
      have hg1 := goL_get hlt (cnt ((bs.take (i + 1)).take j))
      have hg2 := goL_len hlt (cnt ((bs.take (i + 1)).take j))
      have hg3 := goL_set hlt (cnt ((bs.take (i + 1)).take j)) (cnt ((bs.take (i + 1)).take j) + x)
      repeat' first
        | exact True.intro
        | refine runQ_step (fun K hK => ?_)
        | refine runQ_end ?_
        | refine PW.sregN kt_56 [] (fun K hK => ?_)
        | simp only [push_cast, ↓reduceIte, Nat.reduceAdd, Nat.reduceSub, Nat.reduceMul, Nat.reduceEqDiff, Nat.reduceLT, Nat.reduceLeDiff, Int.reduceToNat, reduceCtorEq, Int.reduceEq, Int.reduceLT, Int.reduceLE, Int.reduceAdd, Int.reduceSub, Int.reduceMul, Int.reduceNeg, MV.top, kt_56, ti3, ti4, ti22, ti69, hge, hjt2, Int.toNat_natCast, List.length_map, hwj, hw2, hg1, hg2, hg3, hlt]
        | refine And.intro ?_ ?_
        | (refine hK _ ?_; clear hK K)
        | (refine hK _ ?_ ?_ <;> clear hK K)
        | apply_assumption (exfalso := false) (symm := false) only [*]
        | refine DrG.take rfl rfl rfl (by kernel_rfl) rfl (fun K hK => ?_)
        | refine DrG.one rfl rfl (by kernel_rfl) (by kernel_rfl) (by kernel_rfl) (fun K hK => ?_)
        | refine DrG.fin rfl (by kernel_rfl) (by kernel_rfl) ?_
        | refine Still.ofR rfl rfl rfl (by kernel_rfl) rfl (fun K hK => ?_)
        | refine DrG.alt rfl (by kernel_rfl) (by kernel_rfl) ?_
        | refine DrH.two rfl rfl (by kernel_rfl) (fun K hK => ?_) ?_
        | refine DrH.one rfl rfl (by kernel_rfl) (fun K hK => ?_)
        | refine calP_lent rfl rfl e1 rfl ?_
        | refine PW.seq (fun K hK => ?_)
        | refine PW.ret ?_
        | refine PW.skip ?_
        | refine PW.exit ?_
        | refine PW.block ?_
        | refine PW.condT rfl ?_
        | refine PW.condF rfl ?_
        | (refine PW.condD rfl (fun hc => ?_) (fun hc => ?_) <;> first | (exfalso; omega) | skip)
        | (refine PW.condN rfl (fun hc => ?_) (fun hc => ?_) <;> first | (exfalso; omega) | skip)
        | refine PW.cond rfl (fun hc => ?_) (fun hc => ?_)
        | refine PW.regQ [] ?_
        | refine PW.sdrawG kt_56 sc_56 [] hmix (by kernel_rfl) (fun K hK => ?_)
        | refine PW.drawG sc_56 [] hmix (by kernel_rfl) (fun K hK => ?_)
        | refine PW.label ?_
        | omega
        | (split <;> first | contradiction | skip)
      all_goals exact ⟨j + 1, by rw [hc1]; rfl, by omega, by omega⟩
    · have hjt2 : ¬ (j : Int) < (i : Int) + 1 := by omega
      have : (bs.take (i + 1)).take j = bs.take (i + 1) := List.take_of_length_le (by omega)
      rw [this, go_end hlt]
      repeat' first
        | exact True.intro
        | refine runQ_step (fun K hK => ?_)
        | refine runQ_end ?_
        | refine PW.sregN kt_56 [] (fun K hK => ?_)
        | simp only [push_cast, ↓reduceIte, Nat.reduceAdd, Nat.reduceSub, Nat.reduceMul, Nat.reduceEqDiff, Nat.reduceLT, Nat.reduceLeDiff, Int.reduceToNat, reduceCtorEq, Int.reduceEq, Int.reduceLT, Int.reduceLE, Int.reduceAdd, Int.reduceSub, Int.reduceMul, Int.reduceNeg, MV.top, kt_56, ti3, ti4, ti22, ti69, hjt2, hwi]
        | refine And.intro ?_ ?_
        | (refine hK _ ?_; clear hK K)
        | (refine hK _ ?_ ?_ <;> clear hK K)
        | apply_assumption (exfalso := false) (symm := false) only [*]
        | refine DrG.take rfl rfl rfl (by kernel_rfl) rfl (fun K hK => ?_)
        | refine DrG.one rfl rfl (by kernel_rfl) (by kernel_rfl) (by kernel_rfl) (fun K hK => ?_)
        | refine DrG.fin rfl (by kernel_rfl) (by kernel_rfl) ?_
        | refine Still.ofR rfl rfl rfl (by kernel_rfl) rfl (fun K hK => ?_)
        | refine DrG.alt rfl (by kernel_rfl) (by kernel_rfl) ?_
        | refine DrH.two rfl rfl (by kernel_rfl) (fun K hK => ?_) ?_
        | refine DrH.one rfl rfl (by kernel_rfl) (fun K hK => ?_)
        | refine PW.seq (fun K hK => ?_)
        | refine PW.ret ?_
        | refine PW.skip ?_
        | refine PW.exit ?_
        | refine PW.block ?_
        | refine PW.condT rfl ?_
        | refine PW.condF rfl ?_
        | (refine PW.condD rfl (fun hc => ?_) (fun hc => ?_) <;> first | (exfalso; omega) | skip)
        | (refine PW.condN rfl (fun hc => ?_) (fun hc => ?_) <;> first | (exfalso; omega) | skip)
        | refine PW.cond rfl (fun hc => ?_) (fun hc => ?_)
        | refine PW.regQ [] ?_
        | refine PW.sdrawG kt_56 sc_56 [] hmix (by kernel_rfl) (fun K hK => ?_)
        | refine PW.drawG sc_56 [] hmix (by kernel_rfl) (fun K hK => ?_)
        | refine PW.label ?_
        | omega
        | (split <;> first | contradiction | skip)
      all_goals exact ⟨i + 1, rfl, by omega, by omega⟩
  · have hlt2 : ¬ (i : Int) < bs.length := by omega
    have : (gainsL bs).take i ++ List.replicate (bs.length - i) 0 = gainsL bs := by
      rw [List.take_of_length_le (by rw [gainsL_len]; omega), show bs.length - i = 0 by omega]
      simp
    rw [this]
    unfold outL
    repeat' first
      | exact True.intro
      | refine runQ_step (fun K hK => ?_)
      | refine runQ_end ?_
      | refine PW.sregN kt_56 [] (fun K hK => ?_)
      | simp only [push_cast, ↓reduceIte, Nat.reduceAdd, Nat.reduceSub, Nat.reduceMul, Nat.reduceEqDiff, Nat.reduceLT, Nat.reduceLeDiff, Int.reduceToNat, reduceCtorEq, Int.reduceEq, Int.reduceLT, Int.reduceLE, Int.reduceAdd, Int.reduceSub, Int.reduceMul, Int.reduceNeg, MV.top, kt_56, ti3, ti4, ti22, ti69, hlt2]
      | refine And.intro ?_ ?_
      | (refine hK _ ?_; clear hK K)
      | (refine hK _ ?_ ?_ <;> clear hK K)
      | apply_assumption (exfalso := false) (symm := false) only [*]
      | refine DrG.take rfl rfl rfl (by kernel_rfl) rfl (fun K hK => ?_)
      | refine DrG.one rfl rfl (by kernel_rfl) (by kernel_rfl) (by kernel_rfl) (fun K hK => ?_)
      | refine DrG.fin rfl (by kernel_rfl) (by kernel_rfl) ?_
      | refine Still.ofR rfl rfl rfl (by kernel_rfl) rfl (fun K hK => ?_)
      | refine DrG.alt rfl (by kernel_rfl) (by kernel_rfl) ?_
      | refine DrH.two rfl rfl (by kernel_rfl) (fun K hK => ?_) ?_
      | refine DrH.one rfl rfl (by kernel_rfl) (fun K hK => ?_)
      | refine PW.seq (fun K hK => ?_)
      | refine PW.ret ?_
      | refine PW.skip ?_
      | refine PW.exit ?_
      | refine PW.block ?_
      | refine PW.condT rfl ?_
      | refine PW.condF rfl ?_
      | (refine PW.condD rfl (fun hc => ?_) (fun hc => ?_) <;> first | (exfalso; omega) | skip)
      | (refine PW.condN rfl (fun hc => ?_) (fun hc => ?_) <;> first | (exfalso; omega) | skip)
      | refine PW.cond rfl (fun hc => ?_) (fun hc => ?_)
      | refine PW.regQ [] ?_
      | refine PW.sdrawG kt_56 sc_56 [] hmix (by kernel_rfl) (fun K hK => ?_)
      | refine PW.drawG sc_56 [] hmix (by kernel_rfl) (fun K hK => ?_)
      | refine PW.label ?_
      | omega
      | (split <;> first | contradiction | skip)
end Go.Pv

