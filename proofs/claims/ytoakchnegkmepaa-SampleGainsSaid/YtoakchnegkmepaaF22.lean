/- Contracts of gains. -/
import Derived.Test.YtoakchnegkmepaaF20
set_option linter.unusedSimpArgs false
set_option linter.unusedVariables false
set_option maxRecDepth 100000
set_option maxHeartbeats 1500000
namespace Go.Pv
open Go Go.Proofs
attribute [local irreducible] PW Dr DrS DrN DrG DrH Spec SpecB runQ opP calP gdP Still

/-- What is read later. -/
def kt_52 : List (Nat × List Nat) := [(0, [0]), (1, [0, 4]), (2, [0, 4, 8]), (3, [2, 3, 11]), (4, [2, 3, 11])]
theorem Gains_ok (bs : List Bool) (hl : bs.length ≤ 2000) : Spec Try.prog 52 [bools bs] [(none, ints (gainsL bs)), (none, .int .i64 0)] := by
  have e1 := readError_spec bs
  have hn : ¬ (2000 : Int) < bs.length := by omega
  rw [decide_eq_false hn] at e1
  have e2 := gains_spec bs (by omega)
  have hnp := np_ints (gainsL bs)
  unfold bools ints at *
  refine spec_of (nt := 12) (rs := [.tmp 2, .tmp 3]) Try.func52 rfl rfl rfl rfl (by simp) (by intro x hx; simp only [List.mem_cons, List.not_mem_nil, or_false] at hx; rcases hx with rfl | rfl; exact hnp; rfl) (fun B => ?_)
  repeat' first
    | exact True.intro
    | refine runQ_step (fun K hK => ?_)
    | refine runQ_end ?_
    | refine PW.sregN kt_52 [] (fun K hK => ?_)
    | simp only [push_cast, ↓reduceIte, Nat.reduceAdd, Nat.reduceSub, Nat.reduceMul, Nat.reduceEqDiff, Nat.reduceLT, Nat.reduceLeDiff, Int.reduceToNat, reduceCtorEq, Int.reduceEq, Int.reduceLT, Int.reduceLE, Int.reduceAdd, Int.reduceSub, Int.reduceMul, Int.reduceNeg, MV.top, kt_52, ti3, ti4, ti22, ti32, ti69, whenV]
    | refine And.intro ?_ ?_
    | (refine hK _ ?_; clear hK K)
    | (refine hK _ ?_ ?_ <;> clear hK K)
    | apply_assumption (exfalso := false) (symm := false) only [*]
    | refine calP_lent rfl rfl e1 rfl ?_
    | refine calP_ret rfl rfl rfl e2 ?_
    | refine PW.seq (fun K hK => ?_)
    | refine PW.ret ?_
    | refine PW.skip ?_
    | refine PW.exit ?_
    | refine PW.block ?_
    | refine PW.condT rfl ?_
    | refine PW.condF rfl ?_
    | (refine PW.condD rfl (fun hc => ?_) (fun hc => ?_) <;> first | (exfalso; omega) | skip)
    | (refine PW.condN rfl (fun hc => ?_) (fun hc => ?_) <;> first | (exfalso; omega) | skip)
    | refine PW.cond rfl (fun hc => ?_) (fun hc => ?_)
    | refine PW.regQ [] ?_
    | refine PW.sdrawG kt_52 sc_52 [] hmix (by kernel_rfl) (fun K hK => ?_)
    | refine PW.drawG sc_52 [] hmix (by kernel_rfl) (fun K hK => ?_)
    | refine PW.label ?_
    | omega
    | (split <;> first | contradiction | skip)

theorem Gains_big (bs : List Bool) (hl : 2000 < bs.length) : Spec Try.prog 52 [bools bs] [(none, .list []), (none, .int .i64 2)] := by
  have e1 := readError_spec bs
  have hn : (2000 : Int) < bs.length := by omega
  rw [decide_eq_true hn] at e1
  have key : Spec Try.prog 52 [bools bs] [(some 1, .list []), (none, .int .i64 2)] := by
    unfold bools at *
    refine spec_of (nt := 12) (rs := [.tmp 2, .tmp 3]) Try.func52 rfl rfl rfl rfl (by simp) (by simp [np, npLL]) (fun B => ?_)
    repeat' first
      | exact True.intro
      | refine runQ_step (fun K hK => ?_)
      | refine runQ_end ?_
      | refine PW.sregN kt_52 [] (fun K hK => ?_)
      | simp only [push_cast, ↓reduceIte, Nat.reduceAdd, Nat.reduceSub, Nat.reduceMul, Nat.reduceEqDiff, Nat.reduceLT, Nat.reduceLeDiff, Int.reduceToNat, reduceCtorEq, Int.reduceEq, Int.reduceLT, Int.reduceLE, Int.reduceAdd, Int.reduceSub, Int.reduceMul, Int.reduceNeg, MV.top, kt_52, ti3, ti4, ti22, ti32, ti69, whenV]
      | refine And.intro ?_ ?_
      | (refine hK _ ?_; clear hK K)
      | (refine hK _ ?_ ?_ <;> clear hK K)
      | apply_assumption (exfalso := false) (symm := false) only [*]
      | refine calP_lent rfl rfl e1 rfl ?_
      | refine PW.seq (fun K hK => ?_)
      | refine PW.ret ?_
      | refine PW.skip ?_
      | refine PW.exit ?_
      | refine PW.block ?_
      | refine PW.condT rfl ?_
      | refine PW.condF rfl ?_
      | (refine PW.condD rfl (fun hc => ?_) (fun hc => ?_) <;> first | (exfalso; omega) | skip)
      | (refine PW.condN rfl (fun hc => ?_) (fun hc => ?_) <;> first | (exfalso; omega) | skip)
      | refine PW.cond rfl (fun hc => ?_) (fun hc => ?_)
      | refine PW.regQ [] ?_
      | refine PW.sdrawG kt_52 sc_52 [] hmix (by kernel_rfl) (fun K hK => ?_)
      | refine PW.drawG sc_52 [] hmix (by kernel_rfl) (fun K hK => ?_)
      | refine PW.label ?_
      | omega
      | (split <;> first | contradiction | skip)
  exact key.share

def sumL (xs : List Int) : Int := xs.foldl (fun a b => a + b) 0
theorem sumL_take {xs : List Int} {i : Nat} (h : i < xs.length) : sumL (xs.take (i + 1)) = sumL (xs.take i) + xs[i] := by
  unfold sumL
  rw [List.take_succ_eq_append_getElem h, List.foldl_append]; rfl
theorem sumL_bd {xs : List Int} {M : Int} (h : ∀ x ∈ xs, 0 ≤ x ∧ x ≤ M) : ∀ i : Nat, i ≤ xs.length → 0 ≤ sumL (xs.take i) ∧ sumL (xs.take i) ≤ M * i
  | 0, _ => by simp [sumL]
  | i + 1, hi => by
    have ih := sumL_bd h i (by omega)
    rw [sumL_take (by omega)]
    have := h xs[i] (List.getElem_mem _)
    have e : M * ((i + 1 : Nat) : Int) = M * i + M := by rw [Int.natCast_add, Int.natCast_one, Int.mul_add, Int.mul_one]
    omega

/-- What is read later. -/
def kt_53 : List (Nat × List Nat) := [(0, [0, 2]), (1, [0, 2, 4]), (2, [0, 2, 4, 5]), (3, [0, 2, 4, 5, 19]), (4, [2, 3]), (5, [0, 2, 4, 6]), (6, [0, 2, 4, 6, 23, 24, 25]), (7, [0, 2, 4, 6, 23, 24, 25, 26]), (8, [0, 2, 4, 6, 8, 23, 24, 25]), (9, [0, 2, 4, 6, 23, 24, 25]), (10, [0, 2, 4, 6, 23, 24, 25]), (11, [2, 3])]
theorem Area_err (bs : List Bool) (e : Int) (hl : bs.length ≤ 100000) (he : firstV [whenV (decide ((2000 : Int) < bs.length)) 2, whenV (decide (cnt bs = 0)) 8] = e) (hz : ¬ e = 0) : Spec Try.prog 53 [bools bs] [(none, fracV 0 0), (none, .int .i64 e)] := by
  have e1 := readError_spec bs
  have e2 := all_spec bs (by omega)
  have e3 := First_spec [whenV (decide ((2000 : Int) < bs.length)) 2, whenV (decide (cnt bs = 0)) 8] (by simp)
  rw [he] at e3
  have hnp := np_bools bs
  generalize whenV (decide ((2000 : Int) < bs.length)) 2 = x1 at *
  generalize cnt bs = c at *
  unfold bools fracV at *
  refine spec_of0 (nt := 39) (rs := [.cell 2 30, .tmp 3]) Try.func53 rfl rfl rfl rfl (by simp) (by simp [np, npL]) (by intro x hx; simp only [List.mem_cons, List.not_mem_nil, or_false] at hx; subst hx; exact hnp) ?_
  clear hnp
  repeat' first
    | exact True.intro
    | refine runQ_step (fun K hK => ?_)
    | refine runQ_end ?_
    | refine PW.sregN kt_53 [] (fun K hK => ?_)
    | simp only [push_cast, ↓reduceIte, Nat.reduceAdd, Nat.reduceSub, Nat.reduceMul, Nat.reduceEqDiff, Nat.reduceLT, Nat.reduceLeDiff, Int.reduceToNat, reduceCtorEq, Int.reduceEq, Int.reduceLT, Int.reduceLE, Int.reduceAdd, Int.reduceSub, Int.reduceMul, Int.reduceNeg, MV.top, kt_53, ti1, ti2, ti3, ti4, ti22, ti30, ti32, ti69, ti97, eqt30, hz]
    | refine And.intro ?_ ?_
    | (refine hK _ ?_; clear hK K)
    | (refine hK _ ?_ ?_ <;> clear hK K)
    | apply_assumption (exfalso := false) (symm := false) only [*]
    | refine calP_lent rfl rfl e1 rfl ?_
    | refine calP_lent rfl rfl e2 rfl ?_
    | refine calP_lent rfl rfl e3 rfl ?_
    | refine calP_lent rfl rfl (When_spec _ _) rfl ?_
    | refine PW.seq (fun K hK => ?_)
    | refine PW.ret ?_
    | refine PW.skip ?_
    | refine PW.exit ?_
    | refine PW.block ?_
    | refine PW.condT rfl ?_
    | refine PW.condF rfl ?_
    | (refine PW.condD rfl (fun hc => ?_) (fun hc => ?_) <;> first | (exfalso; omega) | skip)
    | (refine PW.condN rfl (fun hc => ?_) (fun hc => ?_) <;> first | (exfalso; omega) | skip)
    | refine PW.cond rfl (fun hc => ?_) (fun hc => ?_)
    | refine PW.regQ [] ?_
    | refine PW.sdrawG kt_53 sc_53 [] hmix (by kernel_rfl) (fun K hK => ?_)
    | refine PW.drawG sc_53 [] hmix (by kernel_rfl) (fun K hK => ?_)
    | refine PW.label ?_
    | omega
    | (split <;> first | contradiction | skip)

theorem Area_ok (bs : List Bool) (hl : bs.length ≤ 2000) (hc : ¬ cnt bs = 0) : Spec Try.prog 53 [bools bs] [(none, lowV (sumL (gainsL bs)) (bs.length * cnt bs)), (none, .int .i64 0)] := by
  have e1 := readError_spec bs
  have hn : ¬ (2000 : Int) < bs.length := by omega
  rw [decide_eq_false hn] at e1
  have e2 := all_spec bs (by omega)
  have e3 := First_spec [0, 0] (by simp)
  have e4 := gains_spec bs (by omega)
  have hcb := cnt_bd bs
  have hsb := fun i hi => sumL_bd (xs := gainsL bs) (M := 2000) (fun x hx => by have := gains_mem hx; omega) i hi
  have hmb := mul_bd (show (0 : Int) ≤ bs.length by omega) (show (bs.length : Int) ≤ 2000 by omega) hcb.1 (show cnt bs ≤ 2000 by omega)
  have hpos : 0 < (bs.length : Int) * cnt bs := Int.mul_pos (by omega) (by omega)
  have hw1 : IntKind.i64.wrap ((bs.length : Int) * cnt bs) = bs.length * cnt bs := wrap_id (by omega) (by omega)
  have hgl := gainsL_len bs
  have hst := hsb (gainsL bs).length (Nat.le_refl _)
  rw [List.take_length] at hst
  have e5 := fraction_spec (sumL (gainsL bs)) (bs.length * cnt bs) (by omega) (by omega) hpos (by omega)
  have hnp := np_bools bs
  unfold bools lowV fracV ints at *
  refine spec_of0 (nt := 39) (rs := [.cell 2 30, .tmp 3]) Try.func53 rfl rfl rfl rfl (by simp) (by simp [np, npL]) (by intro x hx; simp only [List.mem_cons, List.not_mem_nil, or_false] at hx; subst hx; exact hnp) ?_
  clear hnp
  have hf : firstV [0, 0] = 0 := rfl
  repeat' first
    | exact True.intro
    | refine runQ_step (fun K hK => ?_)
    | refine runQ_end ?_
    | refine PW.sregN kt_53 [] (fun K hK => ?_)
    | simp only [push_cast, ↓reduceIte, Nat.reduceAdd, Nat.reduceSub, Nat.reduceMul, Nat.reduceEqDiff, Nat.reduceLT, Nat.reduceLeDiff, Int.reduceToNat, reduceCtorEq, Int.reduceEq, Int.reduceLT, Int.reduceLE, Int.reduceAdd, Int.reduceSub, Int.reduceMul, Int.reduceNeg, MV.top, kt_53, ti1, ti2, ti3, ti4, ti22, ti30, ti32, ti69, ti97, eqt30, whenV, hc, hf, hgl, List.length_map]
    | refine And.intro ?_ ?_
    | (refine hK _ ?_; clear hK K)
    | (refine hK _ ?_ ?_ <;> clear hK K)
    | apply_assumption (exfalso := false) (symm := false) only [*]
    | refine calP_lent rfl rfl e1 rfl ?_
    | refine calP_lent rfl rfl e2 rfl ?_
    | refine calP_lent rfl rfl e3 rfl ?_
    | refine calP_lent rfl rfl (When_spec _ _) rfl ?_
    | refine calP_ret rfl rfl rfl e4 ?_
    | refine PW.seq (fun K hK => ?_)
    | refine PW.ret ?_
    | refine PW.skip ?_
    | refine PW.exit ?_
    | refine PW.block ?_
    | refine PW.condT rfl ?_
    | refine PW.condF rfl ?_
    | (refine PW.condD rfl (fun hc => ?_) (fun hc => ?_) <;> first | (exfalso; omega) | skip)
    | (refine PW.condN rfl (fun hc => ?_) (fun hc => ?_) <;> first | (exfalso; omega) | skip)
    | refine PW.cond rfl (fun hc => ?_) (fun hc => ?_)
    | refine PW.regQ [] ?_
    | refine PW.sdrawG kt_53 sc_53 [] hmix (by kernel_rfl) (fun K hK => ?_)
    | refine PW.drawG sc_53 [] hmix (by kernel_rfl) (fun K hK => ?_)
    | refine PW.label ?_
    | omega
    | (split <;> first | contradiction | skip)
  refine PW.loopN [0, 2, 4, 6, 23, 24, 25] (fun i : Nat => ⟨[(0, .sh (.list (bs.map boolc))), (2, .sh (.ptr 0 0)), (4, .sh (.int .i64 (cnt bs))), (6, .sh (.int .i64 (sumL ((gainsL bs).take i)))), (23, .sh (.list ((gainsL bs).map fun x => [.int .i64 x]))), (24, .sh (.int .i64 bs.length)), (25, .sh (.int .i64 (i : Int)))], [some [.sh (.int .i64 0), .sh (.int .i64 0)]]⟩) (fun i => i ≤ bs.length) (fun i => bs.length - i) 0 ?_ (Nat.zero_le _) (fun i hi => ?_)
  · simp only [push_cast, ↓reduceIte, Nat.reduceAdd, Nat.reduceSub, Nat.reduceMul, Nat.reduceEqDiff, Nat.reduceLT, Nat.reduceLeDiff, Int.reduceToNat, reduceCtorEq, Int.reduceEq, Int.reduceLT, Int.reduceLE, Int.reduceAdd, Int.reduceSub, Int.reduceMul, Int.reduceNeg, MV.top, kt_53, ti1, ti2, ti3, ti4, ti22, ti30, ti32, ti69, ti97, hgl, List.length_map]
    rfl
  by_cases hlt : i < bs.length
  · have hlg : i < (gainsL bs).length := by omega
    have hge := ints_get hlg
    have hlt2 : (i : Int) < bs.length := by omega
    have hs1 := sumL_take hlg
    have hb1 := hsb i (by omega)
    have hb2 := hsb (i + 1) (by omega)
    rw [hs1] at hb2
    have hwi := wrap_nat (i := i) (by omega)
    have hw2 : IntKind.i64.wrap (sumL ((gainsL bs).take i) + (gainsL bs)[i]) = sumL ((gainsL bs).take i) + (gainsL bs)[i] := wrap_id (by omega) (by omega)
    generalize (gainsL bs)[i] = g at *
    repeat' first
      | exact True.intro
      | refine runQ_step (fun K hK => ?_)
      | refine runQ_end ?_
      | refine PW.sregN kt_53 [] (fun K hK => ?_)
      | simp only [push_cast, ↓reduceIte, Nat.reduceAdd, Nat.reduceSub, Nat.reduceMul, Nat.reduceEqDiff, Nat.reduceLT, Nat.reduceLeDiff, Int.reduceToNat, reduceCtorEq, Int.reduceEq, Int.reduceLT, Int.reduceLE, Int.reduceAdd, Int.reduceSub, Int.reduceMul, Int.reduceNeg, MV.top, kt_53, ti1, ti2, ti3, ti4, ti22, ti30, ti32, ti69, ti97, eqt30, hlt2, hge, hgl, hwi, hw2, Int.toNat_natCast, List.length_map]
      | refine And.intro ?_ ?_
      | (refine hK _ ?_; clear hK K)
      | (refine hK _ ?_ ?_ <;> clear hK K)
      | apply_assumption (exfalso := false) (symm := false) only [*]
      | refine PW.seq (fun K hK => ?_)
      | refine PW.ret ?_
      | refine PW.skip ?_
      | refine PW.exit ?_
      | refine PW.block ?_
      | refine PW.condT rfl ?_
      | refine PW.condF rfl ?_
      | (refine PW.condD rfl (fun hc => ?_) (fun hc => ?_) <;> first | (exfalso; omega) | skip)
      | (refine PW.condN rfl (fun hc => ?_) (fun hc => ?_) <;> first | (exfalso; omega) | skip)
      | refine PW.cond rfl (fun hc => ?_) (fun hc => ?_)
      | refine PW.regQ [] ?_
      | refine PW.sdrawG kt_53 sc_53 [] hmix (by kernel_rfl) (fun K hK => ?_)
      | refine PW.drawG sc_53 [] hmix (by kernel_rfl) (fun K hK => ?_)
      | refine PW.label ?_
      | omega
      | (split <;> first | contradiction | skip)
    all_goals exact ⟨i + 1, by rw [hs1]; rfl, by omega, by omega⟩
  · have hlt2 : ¬ (i : Int) < bs.length := by omega
    have : (gainsL bs).take i = gainsL bs := List.take_of_length_le (by omega)
    rw [this]
    repeat' first
      | exact True.intro
      | refine runQ_step (fun K hK => ?_)
      | refine runQ_end ?_
      | refine PW.sregN kt_53 [] (fun K hK => ?_)
      | simp only [push_cast, ↓reduceIte, Nat.reduceAdd, Nat.reduceSub, Nat.reduceMul, Nat.reduceEqDiff, Nat.reduceLT, Nat.reduceLeDiff, Int.reduceToNat, reduceCtorEq, Int.reduceEq, Int.reduceLT, Int.reduceLE, Int.reduceAdd, Int.reduceSub, Int.reduceMul, Int.reduceNeg, MV.top, kt_53, ti1, ti2, ti3, ti4, ti22, ti30, ti32, ti69, ti97, eqt30, hlt2, hw1, List.length_map]
      | refine And.intro ?_ ?_
      | (refine hK _ ?_; clear hK K)
      | (refine hK _ ?_ ?_ <;> clear hK K)
      | apply_assumption (exfalso := false) (symm := false) only [*]
      | refine calP_lent rfl rfl e5 rfl ?_
      | refine PW.seq (fun K hK => ?_)
      | refine PW.ret ?_
      | refine PW.skip ?_
      | refine PW.exit ?_
      | refine PW.block ?_
      | refine PW.condT rfl ?_
      | refine PW.condF rfl ?_
      | (refine PW.condD rfl (fun hc => ?_) (fun hc => ?_) <;> first | (exfalso; omega) | skip)
      | (refine PW.condN rfl (fun hc => ?_) (fun hc => ?_) <;> first | (exfalso; omega) | skip)
      | refine PW.cond rfl (fun hc => ?_) (fun hc => ?_)
      | refine PW.regQ [] ?_
      | refine PW.sdrawG kt_53 sc_53 [] hmix (by kernel_rfl) (fun K hK => ?_)
      | refine PW.drawG sc_53 [] hmix (by kernel_rfl) (fun K hK => ?_)
      | refine PW.label ?_
      | omega
      | (split <;> first | contradiction | skip)
end Go.Pv

