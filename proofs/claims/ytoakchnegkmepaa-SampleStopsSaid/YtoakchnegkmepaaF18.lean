/- Contracts of orders of relevant items. -/
import Derived.Test.YtoakchnegkmepaaF15
import Derived.Test.YtoakchnegkmepaaLD
set_option linter.unusedSimpArgs false
set_option linter.unusedVariables false
set_option maxRecDepth 100000
set_option maxHeartbeats 1000000
namespace Go.Pv
open Go Go.Proofs
attribute [local irreducible] PW Dr DrS DrN DrG DrH Spec SpecB runQ opP calP gdP Still

def boolc (b : Bool) : List MV := [.bool b]
def bools (bs : List Bool) : MV := .list (bs.map boolc)
theorem np_bools (bs : List Bool) : np (bools bs) = true := by
  unfold bools
  simp only [np]
  induction bs with
  | nil => rfl
  | cons a r ih => simp only [List.map_cons, npLL, npL, np, boolc, Bool.and_true, Bool.true_and]; exact ih
theorem bool_get {bs : List Bool} {i : Nat} (h : i < bs.length) : (bs.map boolc)[i]? = some [.bool bs[i]] := by simp [h, boolc]

def cnt (bs : List Bool) : Int := (bs.count true : Int)
theorem cnt_succ {bs : List Bool} {i : Nat} (h : i < bs.length) : cnt (bs.take (i + 1)) = cnt (bs.take i) + (if bs[i] = true then 1 else 0) := by
  unfold cnt
  rw [List.take_succ_eq_append_getElem h, List.count_append]
  cases bs[i] <;> simp
theorem cnt_bd (bs : List Bool) : 0 ≤ cnt bs ∧ cnt bs ≤ bs.length := by
  have := List.count_le_length (a := true) (l := bs)
  unfold cnt; omega
theorem cnt_take (bs : List Bool) (i : Nat) : 0 ≤ cnt (bs.take i) ∧ cnt (bs.take i) ≤ bs.length := by
  have := cnt_bd (bs.take i)
  have h2 : (bs.take i).length ≤ bs.length := by rw [List.length_take]; omega
  omega

/-- What is read later. -/
def kt_90 : List (Nat × List Nat) := [(0, [0]), (1, [0, 3]), (2, [0, 3, 6, 7, 8]), (3, [0, 3, 6, 7, 8, 9]), (4, [0, 3, 5, 6, 7, 8]), (5, [0, 3, 6, 7, 8, 12]), (6, [0, 3, 6, 7, 8]), (7, [0, 3, 6, 7, 8]), (8, [2])]
theorem all_spec (bs : List Bool) (hl : bs.length < 4611686018427387904) : Spec Try.prog 90 [bools bs] [(none, .int .i64 (cnt bs))] := by
  unfold bools
  refine spec_of (nt := 17) (rs := [.tmp 2]) Try.func90 rfl rfl rfl rfl (by simp) (by simp [np]) (fun B => ?_)
  repeat' first
    | exact True.intro
    | refine runQ_step (fun K hK => ?_)
    | refine runQ_end ?_
    | refine PW.sregN kt_90 [] (fun K hK => ?_)
    | simp only [push_cast, ↓reduceIte, Nat.reduceAdd, Nat.reduceSub, Nat.reduceMul, Nat.reduceEqDiff, Nat.reduceLT, Nat.reduceLeDiff, Int.reduceToNat, reduceCtorEq, Int.reduceEq, Int.reduceLT, Int.reduceLE, Int.reduceAdd, Int.reduceSub, Int.reduceMul, Int.reduceNeg, MV.top, kt_90, ti3, ti4, ti69, List.length_map]
    | refine And.intro ?_ ?_
    | (refine hK _ ?_; clear hK K)
    | (refine hK _ ?_ ?_ <;> clear hK K)
    | apply_assumption (exfalso := false) (symm := false) only [*]
    | refine PW.seq (fun K hK => ?_)
    | refine PW.ret ?_
    | refine PW.skip ?_
    | refine PW.exit ?_
    | refine PW.block ?_
    | refine PW.condT rfl ?_
    | refine PW.condF rfl ?_
    | (refine PW.condD rfl (fun hc => ?_) (fun hc => ?_) <;> first | (exfalso; omega) | skip)
    | (refine PW.condN rfl (fun hc => ?_) (fun hc => ?_) <;> first | (exfalso; omega) | skip)
    | refine PW.cond rfl (fun hc => ?_) (fun hc => ?_)
    | refine PW.regQ [] ?_
    | refine PW.sdrawG kt_90 sc_90 [] hmix (by kernel_rfl) (fun K hK => ?_)
    | refine PW.drawG sc_90 [] hmix (by kernel_rfl) (fun K hK => ?_)
    | refine PW.label ?_
    | omega
    | (split <;> first | contradiction | skip)
  refine PW.loopN [3, 6, 7, 8] (fun i : Nat => ⟨[(3, .sh (.int .i64 (cnt (bs.take i)))), (6, .sh (.list (bs.map boolc))), (7, .sh (.int .i64 bs.length)), (8, .sh (.int .i64 (i : Int)))], B⟩) (fun i => i ≤ bs.length) (fun i => bs.length - i) 0 ?_ (Nat.zero_le _) (fun i hi => ?_)
  · simp only [push_cast, ↓reduceIte, Nat.reduceAdd, Nat.reduceSub, Nat.reduceMul, Nat.reduceEqDiff, Nat.reduceLT, Nat.reduceLeDiff, Int.reduceToNat, reduceCtorEq, Int.reduceEq, Int.reduceLT, Int.reduceLE, Int.reduceAdd, Int.reduceSub, Int.reduceMul, Int.reduceNeg, MV.top, kt_90, ti3, ti4, ti69]
    rfl
  by_cases hlt : i < bs.length
  · have hge := bool_get hlt
    have hlt2 : (i : Int) < bs.length := by omega
    have hc1 := cnt_succ hlt
    have hb := cnt_take bs i
    have hw := wrap_nat (i := i) (by omega)
    have hw2 : IntKind.i64.wrap (cnt (bs.take i) + 1) = cnt (bs.take i) + 1 := wrap_id (by omega) (by omega)
    generalize bs[i] = b at hge hc1
    cases b with
    | true =>
      rw [if_pos rfl] at hc1
      repeat' first
        | exact True.intro
        | refine runQ_step (fun K hK => ?_)
        | refine runQ_end ?_
        | refine PW.sregN kt_90 [] (fun K hK => ?_)
        | simp only [push_cast, ↓reduceIte, Nat.reduceAdd, Nat.reduceSub, Nat.reduceMul, Nat.reduceEqDiff, Nat.reduceLT, Nat.reduceLeDiff, Int.reduceToNat, reduceCtorEq, Int.reduceEq, Int.reduceLT, Int.reduceLE, Int.reduceAdd, Int.reduceSub, Int.reduceMul, Int.reduceNeg, MV.top, kt_90, ti3, ti4, ti69, hge, hlt2, Int.toNat_natCast, List.length_map, hw, hw2]
        | refine And.intro ?_ ?_
        | (refine hK _ ?_; clear hK K)
        | (refine hK _ ?_ ?_ <;> clear hK K)
        | apply_assumption (exfalso := false) (symm := false) only [*]
        | refine PW.seq (fun K hK => ?_)
        | refine PW.ret ?_
        | refine PW.skip ?_
        | refine PW.exit ?_
        | refine PW.block ?_
        | refine PW.condT rfl ?_
        | refine PW.condF rfl ?_
        | (refine PW.condD rfl (fun hc => ?_) (fun hc => ?_) <;> first | (exfalso; omega) | skip)
        | (refine PW.condN rfl (fun hc => ?_) (fun hc => ?_) <;> first | (exfalso; omega) | skip)
        | refine PW.cond rfl (fun hc => ?_) (fun hc => ?_)
        | refine PW.regQ [] ?_
        | refine PW.sdrawG kt_90 sc_90 [] hmix (by kernel_rfl) (fun K hK => ?_)
        | refine PW.drawG sc_90 [] hmix (by kernel_rfl) (fun K hK => ?_)
        | refine PW.label ?_
        | omega
        | (split <;> first | contradiction | skip)
      exact ⟨i + 1, by rw [hc1]; rfl, by omega, by omega⟩
    | false =>
      rw [if_neg (by simp), Int.add_zero] at hc1
      repeat' first
        | exact True.intro
        | refine runQ_step (fun K hK => ?_)
        | refine runQ_end ?_
        | refine PW.sregN kt_90 [] (fun K hK => ?_)
        | simp only [push_cast, ↓reduceIte, Nat.reduceAdd, Nat.reduceSub, Nat.reduceMul, Nat.reduceEqDiff, Nat.reduceLT, Nat.reduceLeDiff, Int.reduceToNat, reduceCtorEq, Int.reduceEq, Int.reduceLT, Int.reduceLE, Int.reduceAdd, Int.reduceSub, Int.reduceMul, Int.reduceNeg, MV.top, kt_90, ti3, ti4, ti69, hge, hlt2, Int.toNat_natCast, List.length_map, hw]
        | refine And.intro ?_ ?_
        | (refine hK _ ?_; clear hK K)
        | (refine hK _ ?_ ?_ <;> clear hK K)
        | apply_assumption (exfalso := false) (symm := false) only [*]
        | refine PW.seq (fun K hK => ?_)
        | refine PW.ret ?_
        | refine PW.skip ?_
        | refine PW.exit ?_
        | refine PW.block ?_
        | refine PW.condT rfl ?_
        | refine PW.condF rfl ?_
        | (refine PW.condD rfl (fun hc => ?_) (fun hc => ?_) <;> first | (exfalso; omega) | skip)
        | (refine PW.condN rfl (fun hc => ?_) (fun hc => ?_) <;> first | (exfalso; omega) | skip)
        | refine PW.cond rfl (fun hc => ?_) (fun hc => ?_)
        | refine PW.regQ [] ?_
        | refine PW.sdrawG kt_90 sc_90 [] hmix (by kernel_rfl) (fun K hK => ?_)
        | refine PW.drawG sc_90 [] hmix (by kernel_rfl) (fun K hK => ?_)
        | refine PW.label ?_
        | omega
        | (split <;> first | contradiction | skip)
      exact ⟨i + 1, by rw [hc1]; rfl, by omega, by omega⟩
  · have hlt2 : ¬ (i : Int) < bs.length := by omega
    have : bs.take i = bs := List.take_of_length_le (by omega)
    rw [this]
    repeat' first
      | exact True.intro
      | refine runQ_step (fun K hK => ?_)
      | refine runQ_end ?_
      | refine PW.sregN kt_90 [] (fun K hK => ?_)
      | simp only [push_cast, ↓reduceIte, Nat.reduceAdd, Nat.reduceSub, Nat.reduceMul, Nat.reduceEqDiff, Nat.reduceLT, Nat.reduceLeDiff, Int.reduceToNat, reduceCtorEq, Int.reduceEq, Int.reduceLT, Int.reduceLE, Int.reduceAdd, Int.reduceSub, Int.reduceMul, Int.reduceNeg, MV.top, kt_90, ti3, ti4, ti69, hlt2]
      | refine And.intro ?_ ?_
      | (refine hK _ ?_; clear hK K)
      | (refine hK _ ?_ ?_ <;> clear hK K)
      | apply_assumption (exfalso := false) (symm := false) only [*]
      | refine PW.seq (fun K hK => ?_)
      | refine PW.ret ?_
      | refine PW.skip ?_
      | refine PW.exit ?_
      | refine PW.block ?_
      | refine PW.condT rfl ?_
      | refine PW.condF rfl ?_
      | (refine PW.condD rfl (fun hc => ?_) (fun hc => ?_) <;> first | (exfalso; omega) | skip)
      | (refine PW.condN rfl (fun hc => ?_) (fun hc => ?_) <;> first | (exfalso; omega) | skip)
      | refine PW.cond rfl (fun hc => ?_) (fun hc => ?_)
      | refine PW.regQ [] ?_
      | refine PW.sdrawG kt_90 sc_90 [] hmix (by kernel_rfl) (fun K hK => ?_)
      | refine PW.drawG sc_90 [] hmix (by kernel_rfl) (fun K hK => ?_)
      | refine PW.label ?_
      | omega
      | (split <;> first | contradiction | skip)

/-- What is read later. -/
def kt_94 : List (Nat × List Nat) := [(0, [0]), (1, [3]), (2, [2]), (3, [2])]
theorem flag_spec (b : Bool) : Spec Try.prog 94 [.bool b] [(none, .int .i64 (if b = true then 1 else 0))] := by
  cases b with
  | true =>
    refine spec_of (nt := 4) (rs := [.tmp 2]) Try.func94 rfl rfl rfl rfl (by simp) (by simp [np]) (fun B => ?_)
    repeat' first
      | exact True.intro
      | refine runQ_step (fun K hK => ?_)
      | refine runQ_end ?_
      | refine PW.sregN kt_94 [] (fun K hK => ?_)
      | simp only [push_cast, ↓reduceIte, Nat.reduceAdd, Nat.reduceSub, Nat.reduceMul, Nat.reduceEqDiff, Nat.reduceLT, Nat.reduceLeDiff, Int.reduceToNat, reduceCtorEq, Int.reduceEq, Int.reduceLT, Int.reduceLE, Int.reduceAdd, Int.reduceSub, Int.reduceMul, Int.reduceNeg, MV.top, kt_94, ti3, ti4]
      | refine And.intro ?_ ?_
      | (refine hK _ ?_; clear hK K)
      | (refine hK _ ?_ ?_ <;> clear hK K)
      | apply_assumption (exfalso := false) (symm := false) only [*]
      | refine PW.seq (fun K hK => ?_)
      | refine PW.ret ?_
      | refine PW.skip ?_
      | refine PW.exit ?_
      | refine PW.block ?_
      | refine PW.condT rfl ?_
      | refine PW.condF rfl ?_
      | (refine PW.condD rfl (fun hc => ?_) (fun hc => ?_) <;> first | (exfalso; omega) | skip)
      | (refine PW.condN rfl (fun hc => ?_) (fun hc => ?_) <;> first | (exfalso; omega) | skip)
      | refine PW.cond rfl (fun hc => ?_) (fun hc => ?_)
      | refine PW.regQ [] ?_
      | refine PW.sdrawG kt_94 sc_94 [] hmix (by kernel_rfl) (fun K hK => ?_)
      | refine PW.drawG sc_94 [] hmix (by kernel_rfl) (fun K hK => ?_)
      | refine PW.label ?_
      | omega
      | (split <;> first | contradiction | skip)
  | false =>
    refine spec_of (nt := 4) (rs := [.tmp 2]) Try.func94 rfl rfl rfl rfl (by simp) (by simp [np]) (fun B => ?_)
    repeat' first
      | exact True.intro
      | refine runQ_step (fun K hK => ?_)
      | refine runQ_end ?_
      | refine PW.sregN kt_94 [] (fun K hK => ?_)
      | simp only [push_cast, ↓reduceIte, Nat.reduceAdd, Nat.reduceSub, Nat.reduceMul, Nat.reduceEqDiff, Nat.reduceLT, Nat.reduceLeDiff, Int.reduceToNat, reduceCtorEq, Int.reduceEq, Int.reduceLT, Int.reduceLE, Int.reduceAdd, Int.reduceSub, Int.reduceMul, Int.reduceNeg, MV.top, kt_94, ti3, ti4]
      | refine And.intro ?_ ?_
      | (refine hK _ ?_; clear hK K)
      | (refine hK _ ?_ ?_ <;> clear hK K)
      | apply_assumption (exfalso := false) (symm := false) only [*]
      | refine PW.seq (fun K hK => ?_)
      | refine PW.ret ?_
      | refine PW.skip ?_
      | refine PW.exit ?_
      | refine PW.block ?_
      | refine PW.condT rfl ?_
      | refine PW.condF rfl ?_
      | (refine PW.condD rfl (fun hc => ?_) (fun hc => ?_) <;> first | (exfalso; omega) | skip)
      | (refine PW.condN rfl (fun hc => ?_) (fun hc => ?_) <;> first | (exfalso; omega) | skip)
      | refine PW.cond rfl (fun hc => ?_) (fun hc => ?_)
      | refine PW.regQ [] ?_
      | refine PW.sdrawG kt_94 sc_94 [] hmix (by kernel_rfl) (fun K hK => ?_)
      | refine PW.drawG sc_94 [] hmix (by kernel_rfl) (fun K hK => ?_)
      | refine PW.label ?_
      | omega
      | (split <;> first | contradiction | skip)

/-- What is read later. -/
def kt_58 : List (Nat × List Nat) := [(0, [0]), (1, [0, 3]), (2, [0, 3, 6, 7, 8]), (3, [0, 3, 6, 7, 8, 9]), (4, [0, 3, 5, 6, 7, 8]), (5, [0, 3, 6, 7, 8]), (6, [0, 3, 6, 7, 8]), (7, [2])]
theorem AllOf_spec (bs : List Bool) (hl : bs.length < 4611686018427387904) : Spec Try.prog 58 [bools bs] [(none, .int .i64 (cnt bs))] := by
  unfold bools
  refine spec_of (nt := 18) (rs := [.tmp 2]) Try.func58 rfl rfl rfl rfl (by simp) (by simp [np]) (fun B => ?_)
  repeat' first
    | exact True.intro
    | refine runQ_step (fun K hK => ?_)
    | refine runQ_end ?_
    | refine PW.sregN kt_58 [] (fun K hK => ?_)
    | simp only [push_cast, ↓reduceIte, Nat.reduceAdd, Nat.reduceSub, Nat.reduceMul, Nat.reduceEqDiff, Nat.reduceLT, Nat.reduceLeDiff, Int.reduceToNat, reduceCtorEq, Int.reduceEq, Int.reduceLT, Int.reduceLE, Int.reduceAdd, Int.reduceSub, Int.reduceMul, Int.reduceNeg, MV.top, kt_58, ti3, ti4, ti69, List.length_map]
    | refine And.intro ?_ ?_
    | (refine hK _ ?_; clear hK K)
    | (refine hK _ ?_ ?_ <;> clear hK K)
    | apply_assumption (exfalso := false) (symm := false) only [*]
    | refine PW.seq (fun K hK => ?_)
    | refine PW.ret ?_
    | refine PW.skip ?_
    | refine PW.exit ?_
    | refine PW.block ?_
    | refine PW.condT rfl ?_
    | refine PW.condF rfl ?_
    | (refine PW.condD rfl (fun hc => ?_) (fun hc => ?_) <;> first | (exfalso; omega) | skip)
    | (refine PW.condN rfl (fun hc => ?_) (fun hc => ?_) <;> first | (exfalso; omega) | skip)
    | refine PW.cond rfl (fun hc => ?_) (fun hc => ?_)
    | refine PW.regQ [] ?_
    | refine PW.sdrawG kt_58 sc_58 [] hmix (by kernel_rfl) (fun K hK => ?_)
    | refine PW.drawG sc_58 [] hmix (by kernel_rfl) (fun K hK => ?_)
    | refine PW.label ?_
    | omega
    | (split <;> first | contradiction | skip)
  refine PW.loopN [3, 6, 7, 8] (fun i : Nat => ⟨[(3, .sh (.int .i64 (cnt (bs.take i)))), (6, .sh (.list (bs.map boolc))), (7, .sh (.int .i64 bs.length)), (8, .sh (.int .i64 (i : Int)))], B⟩) (fun i => i ≤ bs.length) (fun i => bs.length - i) 0 ?_ (Nat.zero_le _) (fun i hi => ?_)
  · simp only [push_cast, ↓reduceIte, Nat.reduceAdd, Nat.reduceSub, Nat.reduceMul, Nat.reduceEqDiff, Nat.reduceLT, Nat.reduceLeDiff, Int.reduceToNat, reduceCtorEq, Int.reduceEq, Int.reduceLT, Int.reduceLE, Int.reduceAdd, Int.reduceSub, Int.reduceMul, Int.reduceNeg, MV.top, kt_58, ti3, ti4, ti69]
    rfl
  by_cases hlt : i < bs.length
  · have hge := bool_get hlt
    have hlt2 : (i : Int) < bs.length := by omega
    have hc1 := cnt_succ hlt
    have hb := cnt_take bs i
    have hw := wrap_nat (i := i) (by omega)
    generalize bs[i] = b at hge hc1
    have e1 := flag_spec b
    generalize hx : (if b = true then (1 : Int) else 0) = x at e1 hc1
    have hx2 : 0 ≤ x ∧ x ≤ 1 := by rw [← hx]; split <;> omega
    have hw2 : IntKind.i64.wrap (cnt (bs.take i) + x) = cnt (bs.take i) + x := wrap_id (by omega) (by omega)
    repeat' first
      | exact True.intro
      | refine runQ_step (fun K hK => ?_)
      | refine runQ_end ?_
      | refine PW.sregN kt_58 [] (fun K hK => ?_)
      | simp only [push_cast, ↓reduceIte, Nat.reduceAdd, Nat.reduceSub, Nat.reduceMul, Nat.reduceEqDiff, Nat.reduceLT, Nat.reduceLeDiff, Int.reduceToNat, reduceCtorEq, Int.reduceEq, Int.reduceLT, Int.reduceLE, Int.reduceAdd, Int.reduceSub, Int.reduceMul, Int.reduceNeg, MV.top, kt_58, ti3, ti4, ti69, hge, hlt2, Int.toNat_natCast, List.length_map, hw, hw2]
      | refine And.intro ?_ ?_
      | (refine hK _ ?_; clear hK K)
      | (refine hK _ ?_ ?_ <;> clear hK K)
      | apply_assumption (exfalso := false) (symm := false) only [*]
      | refine calP_lent rfl rfl e1 rfl ?_
      | refine PW.seq (fun K hK => ?_)
      | refine PW.ret ?_
      | refine PW.skip ?_
      | refine PW.exit ?_
      | refine PW.block ?_
      | refine PW.condT rfl ?_
      | refine PW.condF rfl ?_
      | (refine PW.condD rfl (fun hc => ?_) (fun hc => ?_) <;> first | (exfalso; omega) | skip)
      | (refine PW.condN rfl (fun hc => ?_) (fun hc => ?_) <;> first | (exfalso; omega) | skip)
      | refine PW.cond rfl (fun hc => ?_) (fun hc => ?_)
      | refine PW.regQ [] ?_
      | refine PW.sdrawG kt_58 sc_58 [] hmix (by kernel_rfl) (fun K hK => ?_)
      | refine PW.drawG sc_58 [] hmix (by kernel_rfl) (fun K hK => ?_)
      | refine PW.label ?_
      | omega
      | (split <;> first | contradiction | skip)
    exact ⟨i + 1, by rw [hc1]; rfl, by omega, by omega⟩
  · have hlt2 : ¬ (i : Int) < bs.length := by omega
    have : bs.take i = bs := List.take_of_length_le (by omega)
    rw [this]
    repeat' first
      | exact True.intro
      | refine runQ_step (fun K hK => ?_)
      | refine runQ_end ?_
      | refine PW.sregN kt_58 [] (fun K hK => ?_)
      | simp only [push_cast, ↓reduceIte, Nat.reduceAdd, Nat.reduceSub, Nat.reduceMul, Nat.reduceEqDiff, Nat.reduceLT, Nat.reduceLeDiff, Int.reduceToNat, reduceCtorEq, Int.reduceEq, Int.reduceLT, Int.reduceLE, Int.reduceAdd, Int.reduceSub, Int.reduceMul, Int.reduceNeg, MV.top, kt_58, ti3, ti4, ti69, hlt2]
      | refine And.intro ?_ ?_
      | (refine hK _ ?_; clear hK K)
      | (refine hK _ ?_ ?_ <;> clear hK K)
      | apply_assumption (exfalso := false) (symm := false) only [*]
      | refine PW.seq (fun K hK => ?_)
      | refine PW.ret ?_
      | refine PW.skip ?_
      | refine PW.exit ?_
      | refine PW.block ?_
      | refine PW.condT rfl ?_
      | refine PW.condF rfl ?_
      | (refine PW.condD rfl (fun hc => ?_) (fun hc => ?_) <;> first | (exfalso; omega) | skip)
      | (refine PW.condN rfl (fun hc => ?_) (fun hc => ?_) <;> first | (exfalso; omega) | skip)
      | refine PW.cond rfl (fun hc => ?_) (fun hc => ?_)
      | refine PW.regQ [] ?_
      | refine PW.sdrawG kt_58 sc_58 [] hmix (by kernel_rfl) (fun K hK => ?_)
      | refine PW.drawG sc_58 [] hmix (by kernel_rfl) (fun K hK => ?_)
      | refine PW.label ?_
      | omega
      | (split <;> first | contradiction | skip)

/-- What is read later. -/
def kt_88 : List (Nat × List Nat) := [(0, [0]), (1, [2])]
theorem readError_spec (bs : List Bool) : Spec Try.prog 88 [bools bs] [(none, .int .i64 (whenV (decide ((2000 : Int) < bs.length)) 2))] := by
  unfold bools
  refine spec_of (nt := 7) (rs := [.tmp 2]) Try.func88 rfl rfl rfl rfl (by simp) (by simp [np]) (fun B => ?_)
  repeat' first
    | exact True.intro
    | refine runQ_step (fun K hK => ?_)
    | refine runQ_end ?_
    | refine PW.sregN kt_88 [] (fun K hK => ?_)
    | simp only [push_cast, ↓reduceIte, Nat.reduceAdd, Nat.reduceSub, Nat.reduceMul, Nat.reduceEqDiff, Nat.reduceLT, Nat.reduceLeDiff, Int.reduceToNat, reduceCtorEq, Int.reduceEq, Int.reduceLT, Int.reduceLE, Int.reduceAdd, Int.reduceSub, Int.reduceMul, Int.reduceNeg, MV.top, kt_88, ti3, ti4, ti32, ti69, List.length_map]
    | refine And.intro ?_ ?_
    | (refine hK _ ?_; clear hK K)
    | (refine hK _ ?_ ?_ <;> clear hK K)
    | apply_assumption (exfalso := false) (symm := false) only [*]
    | refine calP_lent rfl rfl (When_spec _ _) rfl ?_
    | refine PW.seq (fun K hK => ?_)
    | refine PW.ret ?_
    | refine PW.skip ?_
    | refine PW.exit ?_
    | refine PW.block ?_
    | refine PW.condT rfl ?_
    | refine PW.condF rfl ?_
    | (refine PW.condD rfl (fun hc => ?_) (fun hc => ?_) <;> first | (exfalso; omega) | skip)
    | (refine PW.condN rfl (fun hc => ?_) (fun hc => ?_) <;> first | (exfalso; omega) | skip)
    | refine PW.cond rfl (fun hc => ?_) (fun hc => ?_)
    | refine PW.regQ [] ?_
    | refine PW.sdrawG kt_88 sc_88 [] hmix (by kernel_rfl) (fun K hK => ?_)
    | refine PW.drawG sc_88 [] hmix (by kernel_rfl) (fun K hK => ?_)
    | refine PW.label ?_
    | omega
    | (split <;> first | contradiction | skip)

def gainsL (bs : List Bool) : List Int := (List.range bs.length).map fun i => cnt (bs.take (i + 1))
def preL (bs : List Bool) : List Int := 0 :: gainsL bs

theorem gainsL_len (bs : List Bool) : (gainsL bs).length = bs.length := by simp [gainsL]
theorem gainsL_take {bs : List Bool} {i : Nat} (h : i < bs.length) : (gainsL bs).take (i + 1) = (gainsL bs).take i ++ [cnt (bs.take (i + 1))] := by
  have hl : i < (gainsL bs).length := by rw [gainsL_len]; exact h
  rw [List.take_succ_eq_append_getElem hl]
  congr 2
  simp [gainsL]
theorem preL_get {bs : List Bool} {i : Nat} (h : i ≤ bs.length) : (preL bs)[i]'(by simp [preL, gainsL]; omega) = cnt (bs.take i) := by
  cases i with
  | zero => rfl
  | succ i => simp [preL, gainsL]

/-- What is read later. -/
def kt_92 : List (Nat × List Nat) := [(0, [0]), (1, [0, 3]), (2, [0, 3, 4, 19]), (3, [0, 3, 4, 7, 8, 9, 19]), (4, [0, 3, 4, 7, 8, 9, 10, 19]), (5, [0, 3, 4, 6, 7, 8, 9, 19]), (6, [0, 3, 4, 7, 8, 9, 13, 19]), (7, [0, 3, 4, 7, 8, 9, 19]), (8, [0, 3, 4, 7, 8, 9, 19]), (9, [0, 3, 4, 7, 8, 9, 19]), (10, [2, 4, 19, 21])]
theorem gains_spec (bs : List Bool) (hl : bs.length ≤ 100000) : Spec Try.prog 92 [bools bs] [(none, ints (gainsL bs))] := by
  have hnp := np_ints (gainsL bs)
  unfold bools ints at *
  refine spec_of (nt := 22) (rs := [.tmp 2]) Try.func92 rfl rfl rfl rfl (by simp) (by intro x hx; simp only [List.mem_cons, List.not_mem_nil, or_false] at hx; subst hx; exact hnp) (fun B => ?_)
  clear hnp
  repeat' first
    | exact True.intro
    | refine runQ_step (fun K hK => ?_)
    | refine runQ_end ?_
    | refine PW.sregN kt_92 [] (fun K hK => ?_)
    | simp only [push_cast, ↓reduceIte, Nat.reduceAdd, Nat.reduceSub, Nat.reduceMul, Nat.reduceEqDiff, Nat.reduceLT, Nat.reduceLeDiff, Int.reduceToNat, reduceCtorEq, Int.reduceEq, Int.reduceLT, Int.reduceLE, Int.reduceAdd, Int.reduceSub, Int.reduceMul, Int.reduceNeg, MV.top, kt_92, ti1, ti3, ti4, ti22, ti69, List.length_map]
    | refine And.intro ?_ ?_
    | (refine hK _ ?_; clear hK K)
    | (refine hK _ ?_ ?_ <;> clear hK K)
    | apply_assumption (exfalso := false) (symm := false) only [*]
    | refine PW.seq (fun K hK => ?_)
    | refine PW.ret ?_
    | refine PW.skip ?_
    | refine PW.exit ?_
    | refine PW.block ?_
    | refine PW.condT rfl ?_
    | refine PW.condF rfl ?_
    | (refine PW.condD rfl (fun hc => ?_) (fun hc => ?_) <;> first | (exfalso; omega) | skip)
    | (refine PW.condN rfl (fun hc => ?_) (fun hc => ?_) <;> first | (exfalso; omega) | skip)
    | refine PW.cond rfl (fun hc => ?_) (fun hc => ?_)
    | refine PW.regQ [] ?_
    | refine PW.sdrawG kt_92 sc_92 [] hmix (by kernel_rfl) (fun K hK => ?_)
    | refine PW.drawG sc_92 [] hmix (by kernel_rfl) (fun K hK => ?_)
    | refine PW.label ?_
    | omega
    | (split <;> first | contradiction | skip)
  refine PW.loopN [3, 4, 7, 8, 9] (fun i : Nat => ⟨[(3, .sh (.int .i64 (cnt (bs.take i)))), (4, .own 1 (.list (((gainsL bs).take i).map fun x => [.int .i64 x]))), (7, .sh (.list (bs.map boolc))), (8, .sh (.int .i64 bs.length)), (9, .sh (.int .i64 (i : Int)))], B⟩) (fun i => i ≤ bs.length) (fun i => bs.length - i) 0 ?_ (Nat.zero_le _) (fun i hi => ?_)
  · simp only [push_cast, ↓reduceIte, Nat.reduceAdd, Nat.reduceSub, Nat.reduceMul, Nat.reduceEqDiff, Nat.reduceLT, Nat.reduceLeDiff, Int.reduceToNat, reduceCtorEq, Int.reduceEq, Int.reduceLT, Int.reduceLE, Int.reduceAdd, Int.reduceSub, Int.reduceMul, Int.reduceNeg, MV.top, kt_92, ti1, ti3, ti4, ti22, ti69]
    rfl
  by_cases hlt : i < bs.length
  · have hge := bool_get hlt
    have hlt2 : (i : Int) < bs.length := by omega
    have hc1 := cnt_succ hlt
    have hb := cnt_take bs i
    have hw := wrap_nat (i := i) (by omega)
    have hw2 : IntKind.i64.wrap (cnt (bs.take i) + 1) = cnt (bs.take i) + 1 := wrap_id (by omega) (by omega)
    have hg := gainsL_take hlt
    have hle : ((gainsL bs).take i).length + 1 ≤ 1000000000 := by rw [List.length_take]; omega
    generalize bs[i] = b at hge hc1
    cases b with
    | true =>
      rw [if_pos rfl] at hc1
      have hmp : (((gainsL bs).take i).map fun x => [MV.int .i64 x]) ++ [[.int .i64 (cnt (bs.take i) + 1)]] = (((gainsL bs).take (i + 1)).map fun x => [MV.int .i64 x]) := by rw [hg, hc1, List.map_append]; rfl
      repeat' first
        | exact True.intro
        | refine runQ_step (fun K hK => ?_)
        | refine runQ_end ?_
        | refine PW.sregN kt_92 [] (fun K hK => ?_)
        | simp only [push_cast, ↓reduceIte, Nat.reduceAdd, Nat.reduceSub, Nat.reduceMul, Nat.reduceEqDiff, Nat.reduceLT, Nat.reduceLeDiff, Int.reduceToNat, reduceCtorEq, Int.reduceEq, Int.reduceLT, Int.reduceLE, Int.reduceAdd, Int.reduceSub, Int.reduceMul, Int.reduceNeg, MV.top, kt_92, ti1, ti3, ti4, ti22, ti69, hge, hlt2, Int.toNat_natCast, List.length_map, hw, hw2, hmp]
        | refine And.intro ?_ ?_
        | (refine hK _ ?_; clear hK K)
        | (refine hK _ ?_ ?_ <;> clear hK K)
        | apply_assumption (exfalso := false) (symm := false) only [*]
        | refine PW.seq (fun K hK => ?_)
        | refine PW.ret ?_
        | refine PW.skip ?_
        | refine PW.exit ?_
        | refine PW.block ?_
        | refine PW.condT rfl ?_
        | refine PW.condF rfl ?_
        | (refine PW.condD rfl (fun hc => ?_) (fun hc => ?_) <;> first | (exfalso; omega) | skip)
        | (refine PW.condN rfl (fun hc => ?_) (fun hc => ?_) <;> first | (exfalso; omega) | skip)
        | refine PW.cond rfl (fun hc => ?_) (fun hc => ?_)
        | refine PW.regQ [] ?_
        | refine PW.sdrawG kt_92 sc_92 [] hmix (by kernel_rfl) (fun K hK => ?_)
        | refine PW.drawG sc_92 [] hmix (by kernel_rfl) (fun K hK => ?_)
        | refine PW.label ?_
        | omega
        | (split <;> first | contradiction | skip)
      all_goals exact ⟨i + 1, by rw [hc1]; rfl, by omega, by omega⟩
    | false =>
      rw [if_neg (by simp), Int.add_zero] at hc1
      have hmp : (((gainsL bs).take i).map fun x => [MV.int .i64 x]) ++ [[.int .i64 (cnt (bs.take i))]] = (((gainsL bs).take (i + 1)).map fun x => [MV.int .i64 x]) := by rw [hg, hc1, List.map_append]; rfl
      repeat' first
        | exact True.intro
        | refine runQ_step (fun K hK => ?_)
        | refine runQ_end ?_
        | refine PW.sregN kt_92 [] (fun K hK => ?_)
        | simp only [push_cast, ↓reduceIte, Nat.reduceAdd, Nat.reduceSub, Nat.reduceMul, Nat.reduceEqDiff, Nat.reduceLT, Nat.reduceLeDiff, Int.reduceToNat, reduceCtorEq, Int.reduceEq, Int.reduceLT, Int.reduceLE, Int.reduceAdd, Int.reduceSub, Int.reduceMul, Int.reduceNeg, MV.top, kt_92, ti1, ti3, ti4, ti22, ti69, hge, hlt2, Int.toNat_natCast, List.length_map, hw, hmp]
        | refine And.intro ?_ ?_
        | (refine hK _ ?_; clear hK K)
        | (refine hK _ ?_ ?_ <;> clear hK K)
        | apply_assumption (exfalso := false) (symm := false) only [*]
        | refine PW.seq (fun K hK => ?_)
        | refine PW.ret ?_
        | refine PW.skip ?_
        | refine PW.exit ?_
        | refine PW.block ?_
        | refine PW.condT rfl ?_
        | refine PW.condF rfl ?_
        | (refine PW.condD rfl (fun hc => ?_) (fun hc => ?_) <;> first | (exfalso; omega) | skip)
        | (refine PW.condN rfl (fun hc => ?_) (fun hc => ?_) <;> first | (exfalso; omega) | skip)
        | refine PW.cond rfl (fun hc => ?_) (fun hc => ?_)
        | refine PW.regQ [] ?_
        | refine PW.sdrawG kt_92 sc_92 [] hmix (by kernel_rfl) (fun K hK => ?_)
        | refine PW.drawG sc_92 [] hmix (by kernel_rfl) (fun K hK => ?_)
        | refine PW.label ?_
        | omega
        | (split <;> first | contradiction | skip)
      all_goals exact ⟨i + 1, by rw [hc1]; rfl, by omega, by omega⟩
  · have hlt2 : ¬ (i : Int) < bs.length := by omega
    have : (gainsL bs).take i = gainsL bs := List.take_of_length_le (by rw [gainsL_len]; omega)
    rw [this]
    repeat' first
      | exact True.intro
      | refine runQ_step (fun K hK => ?_)
      | refine runQ_end ?_
      | refine PW.sregN kt_92 [] (fun K hK => ?_)
      | simp only [push_cast, ↓reduceIte, Nat.reduceAdd, Nat.reduceSub, Nat.reduceMul, Nat.reduceEqDiff, Nat.reduceLT, Nat.reduceLeDiff, Int.reduceToNat, reduceCtorEq, Int.reduceEq, Int.reduceLT, Int.reduceLE, Int.reduceAdd, Int.reduceSub, Int.reduceMul, Int.reduceNeg, MV.top, kt_92, ti1, ti3, ti4, ti22, ti69, hlt2]
      | refine And.intro ?_ ?_
      | (refine hK _ ?_; clear hK K)
      | (refine hK _ ?_ ?_ <;> clear hK K)
      | apply_assumption (exfalso := false) (symm := false) only [*]
      | refine PW.seq (fun K hK => ?_)
      | refine PW.ret ?_
      | refine PW.skip ?_
      | refine PW.exit ?_
      | refine PW.block ?_
      | refine PW.condT rfl ?_
      | refine PW.condF rfl ?_
      | (refine PW.condD rfl (fun hc => ?_) (fun hc => ?_) <;> first | (exfalso; omega) | skip)
      | (refine PW.condN rfl (fun hc => ?_) (fun hc => ?_) <;> first | (exfalso; omega) | skip)
      | refine PW.cond rfl (fun hc => ?_) (fun hc => ?_)
      | refine PW.regQ [] ?_
      | refine PW.sdrawG kt_92 sc_92 [] hmix (by kernel_rfl) (fun K hK => ?_)
      | refine PW.drawG sc_92 [] hmix (by kernel_rfl) (fun K hK => ?_)
      | refine PW.label ?_
      | omega
      | (split <;> first | contradiction | skip)
end Go.Pv

