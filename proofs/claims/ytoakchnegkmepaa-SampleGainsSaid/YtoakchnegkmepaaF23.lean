/- Contracts of knees, and of what is the same. -/
import Derived.Test.YtoakchnegkmepaaF22
set_option linter.unusedSimpArgs false
set_option linter.unusedVariables false
set_option maxRecDepth 100000
set_option maxHeartbeats 1500000
namespace Go.Pv
open Go Go.Proofs
attribute [local irreducible] PW Dr DrS DrN DrG DrH Spec SpecB runQ opP calP gdP Still

def kneeX (bs : List Bool) (k : Nat) : Int := cnt (bs.take k) * bs.length - (k : Int) * cnt bs
def kneeIt (bs : List Bool) : Nat → Int × Int
  | 0 => (0, 0)
  | k + 1 => if (kneeIt bs k).1 < kneeX bs (k + 1) then (kneeX bs (k + 1), ((k + 1 : Nat) : Int)) else kneeIt bs k

theorem knee_bd (bs : List Bool) (hl : bs.length ≤ 2000) (k : Nat) (hk : k ≤ bs.length) : (0 ≤ cnt (bs.take k) * bs.length ∧ cnt (bs.take k) * bs.length ≤ 4000000) ∧ (0 ≤ (k : Int) * cnt bs ∧ (k : Int) * cnt bs ≤ 4000000) := by
  have h1 := cnt_take bs k
  have h2 := cnt_bd bs
  have b1 := mul_bd h1.1 (show cnt (bs.take k) ≤ 2000 by omega) (show (0 : Int) ≤ bs.length by omega) (show (bs.length : Int) ≤ 2000 by omega)
  have b2 := mul_bd (show (0 : Int) ≤ k by omega) (show (k : Int) ≤ 2000 by omega) h2.1 (show cnt bs ≤ 2000 by omega)
  omega

theorem gains_get {bs : List Bool} {i : Nat} (h : i < (gainsL bs).length) : (gainsL bs)[i] = cnt (bs.take (i + 1)) := by
  simp [gainsL]

/-- What is read later. -/
def kt_54 : List (Nat × List Nat) := [(0, [0]), (1, [0, 4]), (2, [0, 4, 14]), (3, [2, 3]), (4, [0, 5]), (5, [0, 5, 6, 7]), (6, [0, 5, 6, 7, 19, 20, 21]), (7, [0, 5, 6, 7, 19, 20, 21, 22]), (8, [0, 5, 6, 7, 8, 9, 19, 20, 21]), (9, [0, 5, 6, 7, 8, 10, 19, 20, 21]), (10, [0, 5, 6, 7, 8, 10, 19, 20, 21, 37]), (11, [0, 5, 6, 7, 19, 20, 21]), (12, [0, 5, 6, 7, 19, 20, 21]), (13, [2, 3])]
theorem Knee_ok (bs : List Bool) (hl : bs.length ≤ 2000) : Spec Try.prog 54 [bools bs] [(none, .int .i64 (kneeIt bs bs.length).2), (none, .int .i64 0)] := by
  have e1 := readError_spec bs
  have hn : ¬ (2000 : Int) < bs.length := by omega
  rw [decide_eq_false hn] at e1
  have e2 := all_spec bs (by omega)
  have e4 := gains_spec bs (by omega)
  have hgl := gainsL_len bs
  unfold bools ints at *
  refine spec_of (nt := 43) (rs := [.tmp 2, .tmp 3]) Try.func54 rfl rfl rfl rfl (by simp) (by simp [np]) (fun B => ?_)
  repeat' first
    | exact True.intro
    | refine runQ_step (fun K hK => ?_)
    | refine runQ_end ?_
    | refine PW.sregN kt_54 [] (fun K hK => ?_)
    | simp only [push_cast, ↓reduceIte, Nat.reduceAdd, Nat.reduceSub, Nat.reduceMul, Nat.reduceEqDiff, Nat.reduceLT, Nat.reduceLeDiff, Int.reduceToNat, reduceCtorEq, Int.reduceEq, Int.reduceLT, Int.reduceLE, Int.reduceAdd, Int.reduceSub, Int.reduceMul, Int.reduceNeg, MV.top, kt_54, ti3, ti4, ti22, ti32, ti69, whenV, hgl, List.length_map]
    | refine And.intro ?_ ?_
    | (refine hK _ ?_; clear hK K)
    | (refine hK _ ?_ ?_ <;> clear hK K)
    | apply_assumption (exfalso := false) (symm := false) only [*]
    | refine calP_lent rfl rfl e1 rfl ?_
    | refine calP_lent rfl rfl e2 rfl ?_
    | refine calP_ret rfl rfl rfl e4 ?_
    | refine PW.seq (fun K hK => ?_)
    | refine PW.ret ?_
    | refine PW.skip ?_
    | refine PW.exit ?_
    | refine PW.block ?_
    | refine PW.condT rfl ?_
    | refine PW.condF rfl ?_
    | (refine PW.condD rfl (fun hc => ?_) (fun hc => ?_) <;> first | (exfalso; omega) | skip)
    | (refine PW.condN rfl (fun hc => ?_) (fun hc => ?_) <;> first | (exfalso; omega) | skip)
    | refine PW.cond rfl (fun hc => ?_) (fun hc => ?_)
    | refine PW.regQ [] ?_
    | refine PW.sdrawG kt_54 sc_54 [] hmix (by kernel_rfl) (fun K hK => ?_)
    | refine PW.drawG sc_54 [] hmix (by kernel_rfl) (fun K hK => ?_)
    | refine PW.label ?_
    | omega
    | (split <;> first | contradiction | skip)
  refine PW.loopN [0, 5, 6, 7, 19, 20, 21] (fun i : Nat => ⟨[(0, .sh (.list (bs.map boolc))), (5, .sh (.int .i64 (cnt bs))), (6, .sh (.int .i64 (kneeIt bs i).1)), (7, .sh (.int .i64 (kneeIt bs i).2)), (19, .sh (.list ((gainsL bs).map fun x => [.int .i64 x]))), (20, .sh (.int .i64 bs.length)), (21, .sh (.int .i64 (i : Int)))], B⟩) (fun i => i ≤ bs.length) (fun i => bs.length - i) 0 ?_ (Nat.zero_le _) (fun i hi => ?_)
  · simp only [push_cast, ↓reduceIte, Nat.reduceAdd, Nat.reduceSub, Nat.reduceMul, Nat.reduceEqDiff, Nat.reduceLT, Nat.reduceLeDiff, Int.reduceToNat, reduceCtorEq, Int.reduceEq, Int.reduceLT, Int.reduceLE, Int.reduceAdd, Int.reduceSub, Int.reduceMul, Int.reduceNeg, MV.top, kt_54, ti3, ti4, ti22, ti32, ti69, hgl, List.length_map]
    rfl
  by_cases hlt : i < bs.length
  · have hlg : i < (gainsL bs).length := by omega
    have hge := ints_get hlg
    rw [gains_get hlg] at hge
    have hlt2 : (i : Int) < bs.length := by omega
    obtain ⟨b1, b2⟩ := knee_bd bs hl (i + 1) (by omega)
    have hk : kneeIt bs (i + 1) = if (kneeIt bs i).1 < kneeX bs (i + 1) then (kneeX bs (i + 1), ((i + 1 : Nat) : Int)) else kneeIt bs i := rfl
    have hkx : kneeX bs (i + 1) = cnt (bs.take (i + 1)) * bs.length - ((i : Int) + 1) * cnt bs := rfl
    have hwi : IntKind.i64.wrap ((i : Int) + 1) = (i : Int) + 1 := wrap_id (by omega) (by omega)
    have hc : ((i + 1 : Nat) : Int) = (i : Int) + 1 := rfl
    rw [hc] at b2 hk
    generalize cnt (bs.take (i + 1)) = g at *
    have hw1 : IntKind.i64.wrap (g * bs.length) = g * bs.length := wrap_id (by omega) (by omega)
    have hw2 : IntKind.i64.wrap (((i : Int) + 1) * cnt bs) = ((i : Int) + 1) * cnt bs := wrap_id (by omega) (by omega)
    have hw3 : IntKind.i64.wrap (g * bs.length - ((i : Int) + 1) * cnt bs) = kneeX bs (i + 1) := by rw [hkx]; exact wrap_id (by omega) (by omega)
    generalize kneeX bs (i + 1) = x at *
    generalize kneeIt bs i = q at *
    obtain ⟨best, at_⟩ := q
    simp only at hk ⊢
    by_cases hx : best < x
    · rw [if_pos hx] at hk
      repeat' first
        | exact True.intro
        | refine runQ_step (fun K hK => ?_)
        | refine runQ_end ?_
        | refine PW.sregN kt_54 [] (fun K hK => ?_)
        | simp only [push_cast, ↓reduceIte, Nat.reduceAdd, Nat.reduceSub, Nat.reduceMul, Nat.reduceEqDiff, Nat.reduceLT, Nat.reduceLeDiff, Int.reduceToNat, reduceCtorEq, Int.reduceEq, Int.reduceLT, Int.reduceLE, Int.reduceAdd, Int.reduceSub, Int.reduceMul, Int.reduceNeg, MV.top, kt_54, ti3, ti4, ti22, ti32, ti69, hlt2, hge, hgl, hwi, hw1, hw2, hw3, hx, Int.toNat_natCast, List.length_map]
        | refine And.intro ?_ ?_
        | (refine hK _ ?_; clear hK K)
        | (refine hK _ ?_ ?_ <;> clear hK K)
        | apply_assumption (exfalso := false) (symm := false) only [*]
        | refine PW.seq (fun K hK => ?_)
        | refine PW.ret ?_
        | refine PW.skip ?_
        | refine PW.exit ?_
        | refine PW.block ?_
        | refine PW.condT rfl ?_
        | refine PW.condF rfl ?_
        | (refine PW.condD rfl (fun hc => ?_) (fun hc => ?_) <;> first | (exfalso; omega) | skip)
        | (refine PW.condN rfl (fun hc => ?_) (fun hc => ?_) <;> first | (exfalso; omega) | skip)
        | refine PW.cond rfl (fun hc => ?_) (fun hc => ?_)
        | refine PW.regQ [] ?_
        | refine PW.sdrawG kt_54 sc_54 [] hmix (by kernel_rfl) (fun K hK => ?_)
        | refine PW.drawG sc_54 [] hmix (by kernel_rfl) (fun K hK => ?_)
        | refine PW.label ?_
        | omega
        | (split <;> first | contradiction | skip)
      all_goals exact ⟨i + 1, by rw [hk]; rfl, by omega, by omega⟩
    · rw [if_neg hx] at hk
      repeat' first
        | exact True.intro
        | refine runQ_step (fun K hK => ?_)
        | refine runQ_end ?_
        | refine PW.sregN kt_54 [] (fun K hK => ?_)
        | simp only [push_cast, ↓reduceIte, Nat.reduceAdd, Nat.reduceSub, Nat.reduceMul, Nat.reduceEqDiff, Nat.reduceLT, Nat.reduceLeDiff, Int.reduceToNat, reduceCtorEq, Int.reduceEq, Int.reduceLT, Int.reduceLE, Int.reduceAdd, Int.reduceSub, Int.reduceMul, Int.reduceNeg, MV.top, kt_54, ti3, ti4, ti22, ti32, ti69, hlt2, hge, hgl, hwi, hw1, hw2, hw3, hx, Int.toNat_natCast, List.length_map]
        | refine And.intro ?_ ?_
        | (refine hK _ ?_; clear hK K)
        | (refine hK _ ?_ ?_ <;> clear hK K)
        | apply_assumption (exfalso := false) (symm := false) only [*]
        | refine PW.seq (fun K hK => ?_)
        | refine PW.ret ?_
        | refine PW.skip ?_
        | refine PW.exit ?_
        | refine PW.block ?_
        | refine PW.condT rfl ?_
        | refine PW.condF rfl ?_
        | (refine PW.condD rfl (fun hc => ?_) (fun hc => ?_) <;> first | (exfalso; omega) | skip)
        | (refine PW.condN rfl (fun hc => ?_) (fun hc => ?_) <;> first | (exfalso; omega) | skip)
        | refine PW.cond rfl (fun hc => ?_) (fun hc => ?_)
        | refine PW.regQ [] ?_
        | refine PW.sdrawG kt_54 sc_54 [] hmix (by kernel_rfl) (fun K hK => ?_)
        | refine PW.drawG sc_54 [] hmix (by kernel_rfl) (fun K hK => ?_)
        | refine PW.label ?_
        | omega
        | (split <;> first | contradiction | skip)
      all_goals exact ⟨i + 1, by rw [hk]; rfl, by omega, by omega⟩
  · have hlt2 : ¬ (i : Int) < bs.length := by omega
    have : i = bs.length := by omega
    subst this
    repeat' first
      | exact True.intro
      | refine runQ_step (fun K hK => ?_)
      | refine runQ_end ?_
      | refine PW.sregN kt_54 [] (fun K hK => ?_)
      | simp only [push_cast, ↓reduceIte, Nat.reduceAdd, Nat.reduceSub, Nat.reduceMul, Nat.reduceEqDiff, Nat.reduceLT, Nat.reduceLeDiff, Int.reduceToNat, reduceCtorEq, Int.reduceEq, Int.reduceLT, Int.reduceLE, Int.reduceAdd, Int.reduceSub, Int.reduceMul, Int.reduceNeg, MV.top, kt_54, ti3, ti4, ti22, ti32, ti69, hlt2]
      | refine And.intro ?_ ?_
      | (refine hK _ ?_; clear hK K)
      | (refine hK _ ?_ ?_ <;> clear hK K)
      | apply_assumption (exfalso := false) (symm := false) only [*]
      | refine PW.seq (fun K hK => ?_)
      | refine PW.ret ?_
      | refine PW.skip ?_
      | refine PW.exit ?_
      | refine PW.block ?_
      | refine PW.condT rfl ?_
      | refine PW.condF rfl ?_
      | (refine PW.condD rfl (fun hc => ?_) (fun hc => ?_) <;> first | (exfalso; omega) | skip)
      | (refine PW.condN rfl (fun hc => ?_) (fun hc => ?_) <;> first | (exfalso; omega) | skip)
      | refine PW.cond rfl (fun hc => ?_) (fun hc => ?_)
      | refine PW.regQ [] ?_
      | refine PW.sdrawG kt_54 sc_54 [] hmix (by kernel_rfl) (fun K hK => ?_)
      | refine PW.drawG sc_54 [] hmix (by kernel_rfl) (fun K hK => ?_)
      | refine PW.label ?_
      | omega
      | (split <;> first | contradiction | skip)

theorem Knee_big (bs : List Bool) (hl : 2000 < bs.length) : Spec Try.prog 54 [bools bs] [(none, .int .i64 0), (none, .int .i64 2)] := by
  have e1 := readError_spec bs
  have hn : (2000 : Int) < bs.length := by omega
  rw [decide_eq_true hn] at e1
  unfold bools at *
  refine spec_of (nt := 43) (rs := [.tmp 2, .tmp 3]) Try.func54 rfl rfl rfl rfl (by simp) (by simp [np]) (fun B => ?_)
  repeat' first
    | exact True.intro
    | refine runQ_step (fun K hK => ?_)
    | refine runQ_end ?_
    | refine PW.sregN kt_54 [] (fun K hK => ?_)
    | simp only [push_cast, ↓reduceIte, Nat.reduceAdd, Nat.reduceSub, Nat.reduceMul, Nat.reduceEqDiff, Nat.reduceLT, Nat.reduceLeDiff, Int.reduceToNat, reduceCtorEq, Int.reduceEq, Int.reduceLT, Int.reduceLE, Int.reduceAdd, Int.reduceSub, Int.reduceMul, Int.reduceNeg, MV.top, kt_54, ti3, ti4, ti22, ti32, ti69, whenV]
    | refine And.intro ?_ ?_
    | (refine hK _ ?_; clear hK K)
    | (refine hK _ ?_ ?_ <;> clear hK K)
    | apply_assumption (exfalso := false) (symm := false) only [*]
    | refine calP_lent rfl rfl e1 rfl ?_
    | refine PW.seq (fun K hK => ?_)
    | refine PW.ret ?_
    | refine PW.skip ?_
    | refine PW.exit ?_
    | refine PW.block ?_
    | refine PW.condT rfl ?_
    | refine PW.condF rfl ?_
    | (refine PW.condD rfl (fun hc => ?_) (fun hc => ?_) <;> first | (exfalso; omega) | skip)
    | (refine PW.condN rfl (fun hc => ?_) (fun hc => ?_) <;> first | (exfalso; omega) | skip)
    | refine PW.cond rfl (fun hc => ?_) (fun hc => ?_)
    | refine PW.regQ [] ?_
    | refine PW.sdrawG kt_54 sc_54 [] hmix (by kernel_rfl) (fun K hK => ?_)
    | refine PW.drawG sc_54 [] hmix (by kernel_rfl) (fun K hK => ?_)
    | refine PW.label ?_
    | omega
    | (split <;> first | contradiction | skip)

/-- What is read later. -/
def kt_57 : List (Nat × List Nat) := [(0, [0]), (1, [0, 3, 4]), (2, [0, 3, 4, 9, 10]), (3, [0, 3, 4, 9, 10, 11]), (4, [0, 3, 4, 5, 9, 10]), (5, [0, 3, 4, 5, 6, 9, 10]), (6, [0, 3, 4, 5, 6, 9, 10, 27]), (7, [0, 3, 4, 9, 10]), (8, [0, 3, 4, 9, 10]), (9, [2])]
theorem KneeOf_spec (bs : List Bool) (hl : bs.length ≤ 2000) : Spec Try.prog 57 [bools bs] [(none, .int .i64 (kneeIt bs bs.length).2)] := by
  have e2 := AllOf_spec bs (by omega)
  have e1 := fun i => AllOf_spec (bs.take i) (by rw [List.length_take]; omega)
  have hll : IntKind.i64.wrap ((bs.length : Int) + 1) = bs.length + 1 := wrap_id (by omega) (by omega)
  unfold bools at *
  refine spec_of (nt := 32) (rs := [.tmp 2]) Try.func57 rfl rfl rfl rfl (by simp) (by simp [np]) (fun B => ?_)
  repeat' first
    | exact True.intro
    | refine runQ_step (fun K hK => ?_)
    | refine runQ_end ?_
    | refine PW.sregN kt_57 [] (fun K hK => ?_)
    | simp only [push_cast, ↓reduceIte, Nat.reduceAdd, Nat.reduceSub, Nat.reduceMul, Nat.reduceEqDiff, Nat.reduceLT, Nat.reduceLeDiff, Int.reduceToNat, reduceCtorEq, Int.reduceEq, Int.reduceLT, Int.reduceLE, Int.reduceAdd, Int.reduceSub, Int.reduceMul, Int.reduceNeg, MV.top, kt_57, ti3, ti4, ti69, List.length_map, hll]
    | refine And.intro ?_ ?_
    | (refine hK _ ?_; clear hK K)
    | (refine hK _ ?_ ?_ <;> clear hK K)
    | apply_assumption (exfalso := false) (symm := false) only [*]
    | refine PW.seq (fun K hK => ?_)
    | refine PW.ret ?_
    | refine PW.skip ?_
    | refine PW.exit ?_
    | refine PW.block ?_
    | refine PW.condT rfl ?_
    | refine PW.condF rfl ?_
    | (refine PW.condD rfl (fun hc => ?_) (fun hc => ?_) <;> first | (exfalso; omega) | skip)
    | (refine PW.condN rfl (fun hc => ?_) (fun hc => ?_) <;> first | (exfalso; omega) | skip)
    | refine PW.cond rfl (fun hc => ?_) (fun hc => ?_)
    | refine PW.regQ [] ?_
    | refine PW.sdrawG kt_57 sc_57 [] hmix (by kernel_rfl) (fun K hK => ?_)
    | refine PW.drawG sc_57 [] hmix (by kernel_rfl) (fun K hK => ?_)
    | refine PW.label ?_
    | omega
    | (split <;> first | contradiction | skip)
  refine PW.loopN [0, 3, 4, 9, 10] (fun i : Nat => ⟨[(0, .sh (.list (bs.map boolc))), (3, .sh (.int .i64 (kneeIt bs (i - 1)).1)), (4, .sh (.int .i64 (kneeIt bs (i - 1)).2)), (9, .sh (.int .i64 ((bs.length : Int) + 1))), (10, .sh (.int .i64 (i : Int)))], B⟩) (fun i => i ≤ bs.length + 1) (fun i => bs.length + 1 - i) 0 ?_ (Nat.zero_le _) (fun i hi => ?_)
  · simp only [push_cast, ↓reduceIte, Nat.reduceAdd, Nat.reduceSub, Nat.reduceMul, Nat.reduceEqDiff, Nat.reduceLT, Nat.reduceLeDiff, Int.reduceToNat, reduceCtorEq, Int.reduceEq, Int.reduceLT, Int.reduceLE, Int.reduceAdd, Int.reduceSub, Int.reduceMul, Int.reduceNeg, MV.top, kt_57, ti3, ti4, ti69, hll]
    rfl
  by_cases hlt : i < bs.length + 1
  · have hlt2 : (i : Int) < (bs.length : Int) + 1 := by omega
    have e3 := e1 i
    clear e1
    obtain ⟨b1, b2⟩ := knee_bd bs hl i (by omega)
    have hwi := wrap_nat (i := i) (by omega)
    have hle : (i : Int) ≤ bs.length := by omega
    have hsz : ∀ e, (bs.map boolc)[0]? = some e → e.length = 1 := by
      intro e he
      obtain ⟨x, _, rfl⟩ := List.mem_map.1 (List.mem_of_getElem? he)
      rfl
    have hmt : (bs.map boolc).take i = (bs.take i).map boolc := by rw [List.map_take]
    have hi0 : (0 : Int) ≤ i := by omega
    have hstep : kneeIt bs ((i + 1) - 1) = if (kneeIt bs (i - 1)).1 < kneeX bs i then (kneeX bs i, (i : Int)) else kneeIt bs (i - 1) := by
      cases i with
      | zero =>
        have : kneeX bs 0 = 0 := by simp [kneeX, cnt]
        rw [this]; rfl
      | succ k => rfl
    have hkx : kneeX bs i = cnt (bs.take i) * bs.length - (i : Int) * cnt bs := rfl
    generalize cnt (bs.take i) = g at *
    have hw1 : IntKind.i64.wrap (g * bs.length) = g * bs.length := wrap_id (by omega) (by omega)
    have hw2 : IntKind.i64.wrap ((i : Int) * cnt bs) = (i : Int) * cnt bs := wrap_id (by omega) (by omega)
    have hw3 : IntKind.i64.wrap (g * bs.length - (i : Int) * cnt bs) = kneeX bs i := by rw [hkx]; exact wrap_id (by omega) (by omega)
    generalize kneeX bs i = x at *
    generalize kneeIt bs (i - 1) = q at *
    obtain ⟨best, at_⟩ := q
    simp only at hstep ⊢
    by_cases hx : best < x
    · rw [if_pos hx] at hstep
      repeat' first
        | exact True.intro
        | refine runQ_step (fun K hK => ?_)
        | refine runQ_end ?_
        | refine PW.sregN kt_57 [] (fun K hK => ?_)
        | simp only [push_cast, ↓reduceIte, Nat.reduceAdd, Nat.reduceSub, Nat.reduceMul, Nat.reduceEqDiff, Nat.reduceLT, Nat.reduceLeDiff, Int.reduceToNat, reduceCtorEq, Int.reduceEq, Int.reduceLT, Int.reduceLE, Int.reduceAdd, Int.reduceSub, Int.reduceMul, Int.reduceNeg, MV.top, kt_57, ti3, ti4, ti69, hlt2, hw1, hw2, hw3, hx, hmt, hle, hsz, hi0, hwi, List.length_map, Int.toNat_natCast, Nat.sub_zero]
        | refine And.intro ?_ ?_
        | (refine hK _ ?_; clear hK K)
        | (refine hK _ ?_ ?_ <;> clear hK K)
        | apply_assumption (exfalso := false) (symm := false) only [*]
        | refine calP_lent rfl rfl e3 rfl ?_
        | refine calP_lent rfl rfl e2 rfl ?_
        | refine PW.seq (fun K hK => ?_)
        | refine PW.ret ?_
        | refine PW.skip ?_
        | refine PW.exit ?_
        | refine PW.block ?_
        | refine PW.condT rfl ?_
        | refine PW.condF rfl ?_
        | (refine PW.condD rfl (fun hc => ?_) (fun hc => ?_) <;> first | (exfalso; omega) | skip)
        | (refine PW.condN rfl (fun hc => ?_) (fun hc => ?_) <;> first | (exfalso; omega) | skip)
        | refine PW.cond rfl (fun hc => ?_) (fun hc => ?_)
        | refine PW.regQ [] ?_
        | refine PW.sdrawG kt_57 sc_57 [] hmix (by kernel_rfl) (fun K hK => ?_)
        | refine PW.drawG sc_57 [] hmix (by kernel_rfl) (fun K hK => ?_)
        | refine PW.label ?_
        | omega
        | (split <;> first | contradiction | skip)
      all_goals exact ⟨i + 1, by rw [hstep]; rfl, by omega, by omega⟩
    · rw [if_neg hx] at hstep
      repeat' first
        | exact True.intro
        | refine runQ_step (fun K hK => ?_)
        | refine runQ_end ?_
        | refine PW.sregN kt_57 [] (fun K hK => ?_)
        | simp only [push_cast, ↓reduceIte, Nat.reduceAdd, Nat.reduceSub, Nat.reduceMul, Nat.reduceEqDiff, Nat.reduceLT, Nat.reduceLeDiff, Int.reduceToNat, reduceCtorEq, Int.reduceEq, Int.reduceLT, Int.reduceLE, Int.reduceAdd, Int.reduceSub, Int.reduceMul, Int.reduceNeg, MV.top, kt_57, ti3, ti4, ti69, hlt2, hw1, hw2, hw3, hx, hmt, hle, hsz, hi0, hwi, List.length_map, Int.toNat_natCast, Nat.sub_zero]
        | refine And.intro ?_ ?_
        | (refine hK _ ?_; clear hK K)
        | (refine hK _ ?_ ?_ <;> clear hK K)
        | apply_assumption (exfalso := false) (symm := false) only [*]
        | refine calP_lent rfl rfl e3 rfl ?_
        | refine calP_lent rfl rfl e2 rfl ?_
        | refine PW.seq (fun K hK => ?_)
        | refine PW.ret ?_
        | refine PW.skip ?_
        | refine PW.exit ?_
        | refine PW.block ?_
        | refine PW.condT rfl ?_
        | refine PW.condF rfl ?_
        | (refine PW.condD rfl (fun hc => ?_) (fun hc => ?_) <;> first | (exfalso; omega) | skip)
        | (refine PW.condN rfl (fun hc => ?_) (fun hc => ?_) <;> first | (exfalso; omega) | skip)
        | refine PW.cond rfl (fun hc => ?_) (fun hc => ?_)
        | refine PW.regQ [] ?_
        | refine PW.sdrawG kt_57 sc_57 [] hmix (by kernel_rfl) (fun K hK => ?_)
        | refine PW.drawG sc_57 [] hmix (by kernel_rfl) (fun K hK => ?_)
        | refine PW.label ?_
        | omega
        | (split <;> first | contradiction | skip)
      all_goals exact ⟨i + 1, by rw [hstep]; rfl, by omega, by omega⟩
  · have hlt2 : ¬ (i : Int) < (bs.length : Int) + 1 := by omega
    have : i - 1 = bs.length := by omega
    rw [this]
    repeat' first
      | exact True.intro
      | refine runQ_step (fun K hK => ?_)
      | refine runQ_end ?_
      | refine PW.sregN kt_57 [] (fun K hK => ?_)
      | simp only [push_cast, ↓reduceIte, Nat.reduceAdd, Nat.reduceSub, Nat.reduceMul, Nat.reduceEqDiff, Nat.reduceLT, Nat.reduceLeDiff, Int.reduceToNat, reduceCtorEq, Int.reduceEq, Int.reduceLT, Int.reduceLE, Int.reduceAdd, Int.reduceSub, Int.reduceMul, Int.reduceNeg, MV.top, kt_57, ti3, ti4, ti69, hlt2]
      | refine And.intro ?_ ?_
      | (refine hK _ ?_; clear hK K)
      | (refine hK _ ?_ ?_ <;> clear hK K)
      | apply_assumption (exfalso := false) (symm := false) only [*]
      | refine PW.seq (fun K hK => ?_)
      | refine PW.ret ?_
      | refine PW.skip ?_
      | refine PW.exit ?_
      | refine PW.block ?_
      | refine PW.condT rfl ?_
      | refine PW.condF rfl ?_
      | (refine PW.condD rfl (fun hc => ?_) (fun hc => ?_) <;> first | (exfalso; omega) | skip)
      | (refine PW.condN rfl (fun hc => ?_) (fun hc => ?_) <;> first | (exfalso; omega) | skip)
      | refine PW.cond rfl (fun hc => ?_) (fun hc => ?_)
      | refine PW.regQ [] ?_
      | refine PW.sdrawG kt_57 sc_57 [] hmix (by kernel_rfl) (fun K hK => ?_)
      | refine PW.drawG sc_57 [] hmix (by kernel_rfl) (fun K hK => ?_)
      | refine PW.label ?_
      | omega
      | (split <;> first | contradiction | skip)

/-- Plans for open orders. -/
def sc_55 : List (Nat × Sc) := [(6, .take 0 (.take 1 (.take 2 (.take 3 (.take 4 (.take 5 (.take 6 (.take 7 (.take 8 (.fin))))))))))]
/-- What is read later. -/
def kt_55 : List (Nat × List Nat) := [(0, [0, 1]), (1, [0, 1, 10]), (2, [4]), (3, [0, 1, 12, 13]), (4, [0, 1, 12, 13, 14]), (5, [0, 1, 5, 12, 13]), (6, [0, 1, 12, 13, 24]), (7, [4]), (8, [0, 1, 12, 13]), (9, [4])]
theorem Equal_same (xs : List Int) (hl : xs.length < 4611686018427387904) : Spec Try.prog 55 [ints xs, ints xs] [(none, .bool true)] := by
  unfold ints
  refine spec_of (nt := 26) (rs := [.tmp 4]) Try.func55 rfl rfl rfl rfl (by simp) (by simp [np]) (fun B => ?_)
  repeat' first
    | exact True.intro
    | refine runQ_step (fun K hK => ?_)
    | refine runQ_end ?_
    | refine PW.sregN kt_55 [] (fun K hK => ?_)
    | simp only [push_cast, ↓reduceIte, Nat.reduceAdd, Nat.reduceSub, Nat.reduceMul, Nat.reduceEqDiff, Nat.reduceLT, Nat.reduceLeDiff, Int.reduceToNat, reduceCtorEq, Int.reduceEq, Int.reduceLT, Int.reduceLE, Int.reduceAdd, Int.reduceSub, Int.reduceMul, Int.reduceNeg, MV.top, kt_55, ti3, ti4, ti22, List.length_map]
    | refine And.intro ?_ ?_
    | (refine hK _ ?_; clear hK K)
    | (refine hK _ ?_ ?_ <;> clear hK K)
    | apply_assumption (exfalso := false) (symm := false) only [*]
    | refine DrG.take rfl rfl rfl (by kernel_rfl) rfl (fun K hK => ?_)
    | refine DrG.one rfl rfl (by kernel_rfl) (by kernel_rfl) (by kernel_rfl) (fun K hK => ?_)
    | refine DrG.fin rfl (by kernel_rfl) (by kernel_rfl) ?_
    | refine Still.ofR rfl rfl rfl (by kernel_rfl) rfl (fun K hK => ?_)
    | refine PW.seq (fun K hK => ?_)
    | refine PW.ret ?_
    | refine PW.skip ?_
    | refine PW.exit ?_
    | refine PW.block ?_
    | refine PW.condT rfl ?_
    | refine PW.condF rfl ?_
    | (refine PW.condD rfl (fun hc => ?_) (fun hc => ?_) <;> first | (exfalso; omega) | skip)
    | (refine PW.condN rfl (fun hc => ?_) (fun hc => ?_) <;> first | (exfalso; omega) | skip)
    | refine PW.cond rfl (fun hc => ?_) (fun hc => ?_)
    | refine PW.regQ [] ?_
    | refine PW.sdrawG kt_55 sc_55 [] hmix (by kernel_rfl) (fun K hK => ?_)
    | refine PW.drawG sc_55 [] hmix (by kernel_rfl) (fun K hK => ?_)
    | refine PW.label ?_
    | omega
    | (split <;> first | contradiction | skip)
  refine PW.loopN [0, 1, 12, 13] (fun i : Nat => ⟨[(0, .sh (.list (xs.map fun x => [.int .i64 x]))), (1, .sh (.list (xs.map fun x => [.int .i64 x]))), (12, .sh (.int .i64 xs.length)), (13, .sh (.int .i64 (i : Int)))], B⟩) (fun i => i ≤ xs.length) (fun i => xs.length - i) 0 ?_ (Nat.zero_le _) (fun i hi => ?_)
  · simp only [push_cast, ↓reduceIte, Nat.reduceAdd, Nat.reduceSub, Nat.reduceMul, Nat.reduceEqDiff, Nat.reduceLT, Nat.reduceLeDiff, Int.reduceToNat, reduceCtorEq, Int.reduceEq, Int.reduceLT, Int.reduceLE, Int.reduceAdd, Int.reduceSub, Int.reduceMul, Int.reduceNeg, MV.top, kt_55, ti3, ti4, ti22, List.length_map]
  by_cases hlt : i < xs.length
  · have hge := ints_get hlt
    have hlt2 : (i : Int) < xs.length := by omega
    have hwi := wrap_nat (i := i) (by omega)
    generalize xs[i] = g at *
    repeat' first
      | exact True.intro
      | refine runQ_step (fun K hK => ?_)
      | refine runQ_end ?_
      | refine PW.sregN kt_55 [] (fun K hK => ?_)
      | simp only [push_cast, ↓reduceIte, Nat.reduceAdd, Nat.reduceSub, Nat.reduceMul, Nat.reduceEqDiff, Nat.reduceLT, Nat.reduceLeDiff, Int.reduceToNat, reduceCtorEq, Int.reduceEq, Int.reduceLT, Int.reduceLE, Int.reduceAdd, Int.reduceSub, Int.reduceMul, Int.reduceNeg, MV.top, kt_55, ti3, ti4, ti22, hlt2, hge, hwi, Int.toNat_natCast, List.length_map]
      | refine And.intro ?_ ?_
      | (refine hK _ ?_; clear hK K)
      | (refine hK _ ?_ ?_ <;> clear hK K)
      | apply_assumption (exfalso := false) (symm := false) only [*]
      | refine DrG.take rfl rfl rfl (by kernel_rfl) rfl (fun K hK => ?_)
      | refine DrG.one rfl rfl (by kernel_rfl) (by kernel_rfl) (by kernel_rfl) (fun K hK => ?_)
      | refine DrG.fin rfl (by kernel_rfl) (by kernel_rfl) ?_
      | refine Still.ofR rfl rfl rfl (by kernel_rfl) rfl (fun K hK => ?_)
      | refine PW.seq (fun K hK => ?_)
      | refine PW.ret ?_
      | refine PW.skip ?_
      | refine PW.exit ?_
      | refine PW.block ?_
      | refine PW.condT rfl ?_
      | refine PW.condF rfl ?_
      | (refine PW.condD rfl (fun hc => ?_) (fun hc => ?_) <;> first | (exfalso; omega) | skip)
      | (refine PW.condN rfl (fun hc => ?_) (fun hc => ?_) <;> first | (exfalso; omega) | skip)
      | refine PW.cond rfl (fun hc => ?_) (fun hc => ?_)
      | refine PW.regQ [] ?_
      | refine PW.sdrawG kt_55 sc_55 [] hmix (by kernel_rfl) (fun K hK => ?_)
      | refine PW.drawG sc_55 [] hmix (by kernel_rfl) (fun K hK => ?_)
      | refine PW.label ?_
      | omega
      | (split <;> first | contradiction | skip)
    all_goals exact ⟨i + 1, rfl, by omega, by omega⟩
  · have hlt2 : ¬ (i : Int) < xs.length := by omega
    repeat' first
      | exact True.intro
      | refine runQ_step (fun K hK => ?_)
      | refine runQ_end ?_
      | refine PW.sregN kt_55 [] (fun K hK => ?_)
      | simp only [push_cast, ↓reduceIte, Nat.reduceAdd, Nat.reduceSub, Nat.reduceMul, Nat.reduceEqDiff, Nat.reduceLT, Nat.reduceLeDiff, Int.reduceToNat, reduceCtorEq, Int.reduceEq, Int.reduceLT, Int.reduceLE, Int.reduceAdd, Int.reduceSub, Int.reduceMul, Int.reduceNeg, MV.top, kt_55, ti3, ti4, ti22, hlt2]
      | refine And.intro ?_ ?_
      | (refine hK _ ?_; clear hK K)
      | (refine hK _ ?_ ?_ <;> clear hK K)
      | apply_assumption (exfalso := false) (symm := false) only [*]
      | refine DrG.take rfl rfl rfl (by kernel_rfl) rfl (fun K hK => ?_)
      | refine DrG.one rfl rfl (by kernel_rfl) (by kernel_rfl) (by kernel_rfl) (fun K hK => ?_)
      | refine DrG.fin rfl (by kernel_rfl) (by kernel_rfl) ?_
      | refine Still.ofR rfl rfl rfl (by kernel_rfl) rfl (fun K hK => ?_)
      | refine PW.seq (fun K hK => ?_)
      | refine PW.ret ?_
      | refine PW.skip ?_
      | refine PW.exit ?_
      | refine PW.block ?_
      | refine PW.condT rfl ?_
      | refine PW.condF rfl ?_
      | (refine PW.condD rfl (fun hc => ?_) (fun hc => ?_) <;> first | (exfalso; omega) | skip)
      | (refine PW.condN rfl (fun hc => ?_) (fun hc => ?_) <;> first | (exfalso; omega) | skip)
      | refine PW.cond rfl (fun hc => ?_) (fun hc => ?_)
      | refine PW.regQ [] ?_
      | refine PW.sdrawG kt_55 sc_55 [] hmix (by kernel_rfl) (fun K hK => ?_)
      | refine PW.drawG sc_55 [] hmix (by kernel_rfl) (fun K hK => ?_)
      | refine PW.label ?_
      | omega
      | (split <;> first | contradiction | skip)
end Go.Pv

