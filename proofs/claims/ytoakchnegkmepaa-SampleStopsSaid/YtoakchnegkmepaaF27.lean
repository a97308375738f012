/- Contracts of when to stop: the searches, and both ways to the answer. -/
import Derived.Test.YtoakchnegkmepaaF26
set_option linter.unusedSimpArgs false
set_option linter.unusedVariables false
set_option maxRecDepth 100000
set_option maxHeartbeats 1500000
namespace Go.Pv
open Go Go.Proofs
attribute [local irreducible] PW Dr DrS DrN DrG DrH Spec SpecB runQ opP calP gdP Still

def idxB (p : List Bool → Bool) : List (List Bool) → Int → Int
  | [], _ => -1
  | x :: r, i => if p x = true then i else idxB p r (i + 1)
theorem idxB_drop {p : List Bool → Bool} {xs : List (List Bool)} {i : Nat} (h : i < xs.length) : idxB p (xs.drop i) i = if p xs[i] = true then (i : Int) else idxB p (xs.drop (i + 1)) ((i + 1 : Nat) : Int) := by
  rw [List.drop_eq_getElem_cons h]; rfl
theorem idxB_any (p : List Bool → Bool) : ∀ (xs : List (List Bool)) (i : Int), 0 ≤ i → (0 ≤ idxB p xs i ↔ xs.any p = true)
  | [], i, h => by simp [idxB]
  | x :: r, i, h => by
    unfold idxB
    rw [List.any_cons]
    by_cases hp : p x = true
    · simp [hp, h]
    · rw [if_neg hp, idxB_any p r (i + 1) (by omega)]; simp [hp]

/-- What is read later. -/
def kt_97 : List (Nat × List Nat) := [(0, [0, 1]), (1, [0, 1, 7, 8]), (2, [0, 1, 7, 8, 9]), (3, [0, 1, 5, 7, 8]), (4, [0, 1, 5, 7, 8, 16]), (5, [4]), (6, [0, 1, 7, 8]), (7, [4])]
theorem IndexFuncB_spec {f : FuncId} {cap : List MV} (p : List Bool → Bool) (xs : List (List Bool)) (hl : xs.length < 4611686018427387904) (hcall : ∀ x ∈ xs, Spec Try.prog f (bools x :: cap) [(none, .bool (p x))]) :
    Spec Try.prog 97 [rowsM xs, .fn f cap] [(none, .int .i64 (idxB p xs 0))] := by
  refine spec_of (nt := 19) (rs := [.tmp 4]) Try.func97 rfl rfl rfl rfl (by simp) (by simp [np]) (fun B => ?_)
  unfold rowsM bools at *
  repeat' first
    | exact True.intro
    | refine runQ_step (fun K hK => ?_)
    | refine runQ_end ?_
    | refine PW.sregN kt_97 [] (fun K hK => ?_)
    | simp only [push_cast, ↓reduceIte, Nat.reduceAdd, Nat.reduceSub, Nat.reduceMul, Nat.reduceEqDiff, Nat.reduceLT, Nat.reduceLeDiff, Int.reduceToNat, reduceCtorEq, Int.reduceEq, Int.reduceLT, Int.reduceLE, Int.reduceAdd, Int.reduceSub, Int.reduceMul, Int.reduceNeg, MV.top, kt_97, ti3, ti4, ti69, ti80, ti86, List.length_map]
    | refine And.intro ?_ ?_
    | (refine hK _ ?_; clear hK K)
    | (refine hK _ ?_ ?_ <;> clear hK K)
    | apply_assumption (exfalso := false) (symm := false) only [*]
    | refine PW.seq (fun K hK => ?_)
    | refine PW.ret ?_
    | refine PW.skip ?_
    | refine PW.exit ?_
    | refine PW.block ?_
    | refine PW.condT rfl ?_
    | refine PW.condF rfl ?_
    | (refine PW.condD rfl (fun hc => ?_) (fun hc => ?_) <;> first | (exfalso; omega) | skip)
    | (refine PW.condN rfl (fun hc => ?_) (fun hc => ?_) <;> first | (exfalso; omega) | skip)
    | refine PW.cond rfl (fun hc => ?_) (fun hc => ?_)
    | refine PW.regQ [] ?_
    | refine PW.sdrawG kt_97 sc_97 [] hmix (by kernel_rfl) (fun K hK => ?_)
    | refine PW.drawG sc_97 [] hmix (by kernel_rfl) (fun K hK => ?_)
    | refine PW.label ?_
    | omega
    | (split <;> first | contradiction | skip)
  refine PW.loopN [0, 1, 7, 8] (fun i : Nat => ⟨[(0, .sh (.list (xs.map fun bs => [.list (bs.map boolc)]))), (1, .sh (.fn f cap)), (7, .sh (.int .i64 xs.length)), (8, .sh (.int .i64 (i : Int)))], B⟩) (fun i => i ≤ xs.length ∧ idxB p (xs.drop i) i = idxB p xs 0) (fun i => xs.length - i) 0 ?_ ⟨Nat.zero_le _, rfl⟩ (fun i hi => ?_)
  · simp only [push_cast, ↓reduceIte, Nat.reduceAdd, Nat.reduceSub, Nat.reduceMul, Nat.reduceEqDiff, Nat.reduceLT, Nat.reduceLeDiff, Int.reduceToNat, reduceCtorEq, Int.reduceEq, Int.reduceLT, Int.reduceLE, Int.reduceAdd, Int.reduceSub, Int.reduceMul, Int.reduceNeg, MV.top, kt_97, ti3, ti4, ti69, ti80, ti86]
  obtain ⟨h1, h2⟩ := hi
  by_cases hlt : i < xs.length
  · have hge := rows_get hlt
    unfold bools at hge
    have hd := idxB_drop (p := p) hlt
    have hlt2 : (i : Int) < xs.length := by omega
    have hc1 := hcall xs[i] (by simp)
    rw [hd] at h2
    clear hd
    cases hp : p xs[i] with
    | true =>
      rw [hp] at hc1
      rw [hp, if_pos rfl] at h2
      repeat' first
        | exact True.intro
        | refine runQ_step (fun K hK => ?_)
        | refine runQ_end ?_
        | refine PW.sregN kt_97 [] (fun K hK => ?_)
        | simp only [push_cast, ↓reduceIte, Nat.reduceAdd, Nat.reduceSub, Nat.reduceMul, Nat.reduceEqDiff, Nat.reduceLT, Nat.reduceLeDiff, Int.reduceToNat, reduceCtorEq, Int.reduceEq, Int.reduceLT, Int.reduceLE, Int.reduceAdd, Int.reduceSub, Int.reduceMul, Int.reduceNeg, MV.top, kt_97, ti3, ti4, ti69, ti80, ti86, hge, hlt2, Int.toNat_natCast, List.length_map]
        | refine And.intro ?_ ?_
        | (refine hK _ ?_; clear hK K)
        | (refine hK _ ?_ ?_ <;> clear hK K)
        | apply_assumption (exfalso := false) (symm := false) only [*]
        | refine calP_lent rfl rfl hc1 rfl ?_
        | refine PW.seq (fun K hK => ?_)
        | refine PW.ret ?_
        | refine PW.skip ?_
        | refine PW.exit ?_
        | refine PW.block ?_
        | refine PW.condT rfl ?_
        | refine PW.condF rfl ?_
        | (refine PW.condD rfl (fun hc => ?_) (fun hc => ?_) <;> first | (exfalso; omega) | skip)
        | (refine PW.condN rfl (fun hc => ?_) (fun hc => ?_) <;> first | (exfalso; omega) | skip)
        | refine PW.cond rfl (fun hc => ?_) (fun hc => ?_)
        | refine PW.regQ [] ?_
        | refine PW.sdrawG kt_97 sc_97 [] hmix (by kernel_rfl) (fun K hK => ?_)
        | refine PW.drawG sc_97 [] hmix (by kernel_rfl) (fun K hK => ?_)
        | refine PW.label ?_
        | omega
        | (split <;> first | contradiction | skip)
      all_goals exact h2
    | false =>
      rw [hp] at hc1
      rw [hp, if_neg (by simp)] at h2
      repeat' first
        | exact True.intro
        | refine runQ_step (fun K hK => ?_)
        | refine runQ_end ?_
        | refine PW.sregN kt_97 [] (fun K hK => ?_)
        | simp only [push_cast, ↓reduceIte, Nat.reduceAdd, Nat.reduceSub, Nat.reduceMul, Nat.reduceEqDiff, Nat.reduceLT, Nat.reduceLeDiff, Int.reduceToNat, reduceCtorEq, Int.reduceEq, Int.reduceLT, Int.reduceLE, Int.reduceAdd, Int.reduceSub, Int.reduceMul, Int.reduceNeg, MV.top, kt_97, ti3, ti4, ti69, ti80, ti86, hge, hlt2, Int.toNat_natCast, List.length_map]
        | refine And.intro ?_ ?_
        | (refine hK _ ?_; clear hK K)
        | (refine hK _ ?_ ?_ <;> clear hK K)
        | apply_assumption (exfalso := false) (symm := false) only [*]
        | refine calP_lent rfl rfl hc1 rfl ?_
        | refine PW.seq (fun K hK => ?_)
        | refine PW.ret ?_
        | refine PW.skip ?_
        | refine PW.exit ?_
        | refine PW.block ?_
        | refine PW.condT rfl ?_
        | refine PW.condF rfl ?_
        | (refine PW.condD rfl (fun hc => ?_) (fun hc => ?_) <;> first | (exfalso; omega) | skip)
        | (refine PW.condN rfl (fun hc => ?_) (fun hc => ?_) <;> first | (exfalso; omega) | skip)
        | refine PW.cond rfl (fun hc => ?_) (fun hc => ?_)
        | refine PW.regQ [] ?_
        | refine PW.sdrawG kt_97 sc_97 [] hmix (by kernel_rfl) (fun K hK => ?_)
        | refine PW.drawG sc_97 [] hmix (by kernel_rfl) (fun K hK => ?_)
        | refine PW.label ?_
        | omega
        | (split <;> first | contradiction | skip)
      exact ⟨i + 1, by rw [wrap_nat (by omega)], ⟨by omega, h2⟩, by omega⟩
  · have hlt2 : ¬ (i : Int) < xs.length := by omega
    rw [List.drop_of_length_le (by omega)] at h2
    repeat' first
      | exact True.intro
      | refine runQ_step (fun K hK => ?_)
      | refine runQ_end ?_
      | refine PW.sregN kt_97 [] (fun K hK => ?_)
      | simp only [push_cast, ↓reduceIte, Nat.reduceAdd, Nat.reduceSub, Nat.reduceMul, Nat.reduceEqDiff, Nat.reduceLT, Nat.reduceLeDiff, Int.reduceToNat, reduceCtorEq, Int.reduceEq, Int.reduceLT, Int.reduceLE, Int.reduceAdd, Int.reduceSub, Int.reduceMul, Int.reduceNeg, MV.top, kt_97, ti3, ti4, ti69, ti80, ti86, hlt2]
      | refine And.intro ?_ ?_
      | (refine hK _ ?_; clear hK K)
      | (refine hK _ ?_ ?_ <;> clear hK K)
      | apply_assumption (exfalso := false) (symm := false) only [*]
      | refine PW.seq (fun K hK => ?_)
      | refine PW.ret ?_
      | refine PW.skip ?_
      | refine PW.exit ?_
      | refine PW.block ?_
      | refine PW.condT rfl ?_
      | refine PW.condF rfl ?_
      | (refine PW.condD rfl (fun hc => ?_) (fun hc => ?_) <;> first | (exfalso; omega) | skip)
      | (refine PW.condN rfl (fun hc => ?_) (fun hc => ?_) <;> first | (exfalso; omega) | skip)
      | refine PW.cond rfl (fun hc => ?_) (fun hc => ?_)
      | refine PW.regQ [] ?_
      | refine PW.sdrawG kt_97 sc_97 [] hmix (by kernel_rfl) (fun K hK => ?_)
      | refine PW.drawG sc_97 [] hmix (by kernel_rfl) (fun K hK => ?_)
      | refine PW.label ?_
      | omega
      | (split <;> first | contradiction | skip)
    all_goals exact h2

/-- What is read later. -/
def kt_61 : List (Nat × List Nat) := [(0, [0, 1]), (1, [4])]
theorem ContainsFuncB_spec {f : FuncId} {cap : List MV} (p : List Bool → Bool) (xs : List (List Bool)) (hl : xs.length < 4611686018427387904) (hcall : ∀ x ∈ xs, Spec Try.prog f (bools x :: cap) [(none, .bool (p x))]) :
    Spec Try.prog 61 [rowsM xs, .fn f cap] [(none, .bool (xs.any p))] := by
  have e1 := IndexFuncB_spec p xs hl hcall
  refine spec_of (nt := 9) (rs := [.tmp 4]) Try.func61 rfl rfl rfl rfl (by simp) (by simp [np]) (fun B => ?_)
  unfold rowsM bools at *
  repeat' first
    | exact True.intro
    | refine runQ_step (fun K hK => ?_)
    | refine runQ_end ?_
    | refine PW.sregN kt_61 [] (fun K hK => ?_)
    | simp only [push_cast, ↓reduceIte, Nat.reduceAdd, Nat.reduceSub, Nat.reduceMul, Nat.reduceEqDiff, Nat.reduceLT, Nat.reduceLeDiff, Int.reduceToNat, reduceCtorEq, Int.reduceEq, Int.reduceLT, Int.reduceLE, Int.reduceAdd, Int.reduceSub, Int.reduceMul, Int.reduceNeg, MV.top, kt_61, ti3, ti4, ti69, ti80, ti86]
    | refine And.intro ?_ ?_
    | (refine hK _ ?_; clear hK K)
    | (refine hK _ ?_ ?_ <;> clear hK K)
    | apply_assumption (exfalso := false) (symm := false) only [*]
    | refine calP_ret rfl rfl rfl e1 ?_
    | refine PW.seq (fun K hK => ?_)
    | refine PW.ret ?_
    | refine PW.skip ?_
    | refine PW.exit ?_
    | refine PW.block ?_
    | refine PW.condT rfl ?_
    | refine PW.condF rfl ?_
    | (refine PW.condD rfl (fun hc => ?_) (fun hc => ?_) <;> first | (exfalso; omega) | skip)
    | (refine PW.condN rfl (fun hc => ?_) (fun hc => ?_) <;> first | (exfalso; omega) | skip)
    | refine PW.cond rfl (fun hc => ?_) (fun hc => ?_)
    | refine PW.regQ [] ?_
    | refine PW.sdrawG kt_61 sc_61 [] hmix (by kernel_rfl) (fun K hK => ?_)
    | refine PW.drawG sc_61 [] hmix (by kernel_rfl) (fun K hK => ?_)
    | refine PW.label ?_
    | omega
    | (split <;> first | contradiction | skip)
  exact Bool.eq_iff_iff.2 (by rw [decide_eq_true_iff]; exact idxB_any p xs 0 (by omega))

def bigB (bs : List Bool) : Bool := decide ((2000 : Int) < bs.length)

/-- What is read later. -/
def kt_96 : List (Nat × List Nat) := [(0, [0]), (1, [2])]
theorem Stops1_spec (bs : List Bool) : Spec Try.prog 96 [bools bs] [(none, .bool (bigB bs))] := by
  unfold bools bigB
  refine spec_of (nt := 6) (rs := [.tmp 2]) Try.func96 rfl rfl rfl rfl (by simp) (by simp [np]) (fun B => ?_)
  repeat' first
    | exact True.intro
    | refine runQ_step (fun K hK => ?_)
    | refine runQ_end ?_
    | refine PW.sregN kt_96 [] (fun K hK => ?_)
    | simp only [push_cast, ↓reduceIte, Nat.reduceAdd, Nat.reduceSub, Nat.reduceMul, Nat.reduceEqDiff, Nat.reduceLT, Nat.reduceLeDiff, Int.reduceToNat, reduceCtorEq, Int.reduceEq, Int.reduceLT, Int.reduceLE, Int.reduceAdd, Int.reduceSub, Int.reduceMul, Int.reduceNeg, MV.top, kt_96, ti3, ti4, ti69, List.length_map]
    | refine And.intro ?_ ?_
    | (refine hK _ ?_; clear hK K)
    | (refine hK _ ?_ ?_ <;> clear hK K)
    | apply_assumption (exfalso := false) (symm := false) only [*]
    | refine PW.seq (fun K hK => ?_)
    | refine PW.ret ?_
    | refine PW.skip ?_
    | refine PW.exit ?_
    | refine PW.block ?_
    | refine PW.condT rfl ?_
    | refine PW.condF rfl ?_
    | (refine PW.condD rfl (fun hc => ?_) (fun hc => ?_) <;> first | (exfalso; omega) | skip)
    | (refine PW.condN rfl (fun hc => ?_) (fun hc => ?_) <;> first | (exfalso; omega) | skip)
    | refine PW.cond rfl (fun hc => ?_) (fun hc => ?_)
    | refine PW.regQ [] ?_
    | refine PW.sdrawG kt_96 sc_96 [] hmix (by kernel_rfl) (fun K hK => ?_)
    | refine PW.drawG sc_96 [] hmix (by kernel_rfl) (fun K hK => ?_)
    | refine PW.label ?_
    | omega
    | (split <;> first | contradiction | skip)

/-- What is read later. -/
def kt_62 : List (Nat × List Nat) := [(0, [0]), (1, [2])]
theorem Stops2_spec (bs : List Bool) : Spec Try.prog 62 [bools bs] [(none, .bool (bigB bs))] := by
  unfold bools bigB
  refine spec_of (nt := 6) (rs := [.tmp 2]) Try.func62 rfl rfl rfl rfl (by simp) (by simp [np]) (fun B => ?_)
  repeat' first
    | exact True.intro
    | refine runQ_step (fun K hK => ?_)
    | refine runQ_end ?_
    | refine PW.sregN kt_62 [] (fun K hK => ?_)
    | simp only [push_cast, ↓reduceIte, Nat.reduceAdd, Nat.reduceSub, Nat.reduceMul, Nat.reduceEqDiff, Nat.reduceLT, Nat.reduceLeDiff, Int.reduceToNat, reduceCtorEq, Int.reduceEq, Int.reduceLT, Int.reduceLE, Int.reduceAdd, Int.reduceSub, Int.reduceMul, Int.reduceNeg, MV.top, kt_62, ti3, ti4, ti69, List.length_map]
    | refine And.intro ?_ ?_
    | (refine hK _ ?_; clear hK K)
    | (refine hK _ ?_ ?_ <;> clear hK K)
    | apply_assumption (exfalso := false) (symm := false) only [*]
    | refine PW.seq (fun K hK => ?_)
    | refine PW.ret ?_
    | refine PW.skip ?_
    | refine PW.exit ?_
    | refine PW.block ?_
    | refine PW.condT rfl ?_
    | refine PW.condF rfl ?_
    | (refine PW.condD rfl (fun hc => ?_) (fun hc => ?_) <;> first | (exfalso; omega) | skip)
    | (refine PW.condN rfl (fun hc => ?_) (fun hc => ?_) <;> first | (exfalso; omega) | skip)
    | refine PW.cond rfl (fun hc => ?_) (fun hc => ?_)
    | refine PW.regQ [] ?_
    | refine PW.sdrawG kt_62 sc_62 [] hmix (by kernel_rfl) (fun K hK => ?_)
    | refine PW.drawG sc_62 [] hmix (by kernel_rfl) (fun K hK => ?_)
    | refine PW.label ?_
    | omega
    | (split <;> first | contradiction | skip)

/-- The first k at which f holds, or 0. -/
def stopAt (f : Nat → Bool) : Nat → Nat → Int
  | 0, _ => 0
  | n + 1, k => if f k = true then (k : Int) else stopAt f n (k + 1)
theorem stopAt_skip (f : Nat → Bool) : ∀ (m n k : Nat), (∀ j, k ≤ j → j < k + m → f j = false) → stopAt f (m + n) k = stopAt f n (k + m)
  | 0, n, k, _ => by simp
  | m + 1, n, k, h => by
    rw [show m + 1 + n = (m + n) + 1 by omega]
    unfold stopAt
    rw [if_neg (by simp [h k (by omega) (by omega)]), stopAt_skip f m n (k + 1) (fun j h1 h2 => h j (by omega) (by omega))]
    rw [show k + 1 + m = k + (m + 1) by omega]
    cases n with
    | zero => rfl
    | succ n => rfl

def cntT (bss : List (List Bool)) (i : Nat) : Int := cnt (bss.take i).flatten
theorem cnt_append (a b : List Bool) : cnt (a ++ b) = cnt a + cnt b := by unfold cnt; rw [List.count_append]; omega
theorem cntT_succ {bss : List (List Bool)} {i : Nat} (h : i < bss.length) : cntT bss (i + 1) = cntT bss i + cnt bss[i] := by
  unfold cntT; rw [flat_succ h, cnt_append]
/-- The window of the last r rows before k. -/
def winB (bss : List (List Bool)) (r k : Nat) : List Bool := ((bss.drop (k - r)).take (k - (k - r))).flatten
theorem win_split (bss : List (List Bool)) (r k : Nat) : (bss.take k).flatten = (bss.take (k - r)).flatten ++ winB bss r k := by
  unfold winB
  rw [← List.flatten_append]
  congr 1
  rw [← List.drop_take, show bss.take (k - r) = (bss.take k).take (k - r) by rw [List.take_take]; congr 1; omega, List.take_append_drop]
theorem win_cnt (bss : List (List Bool)) (r k : Nat) : cnt (winB bss r k) = cntT bss k - cntT bss (k - r) := by
  have := congrArg cnt (win_split bss r k)
  rw [cnt_append] at this
  unfold cntT; omega
theorem win_len (bss : List (List Bool)) (r k : Nat) : ((winB bss r k).length : Int) = lenT bss k - lenT bss (k - r) := by
  have := congrArg List.length (win_split bss r k)
  rw [List.length_append] at this
  unfold lenT; omega
/-- Whether one may stop at k. -/
def stopB (bss : List (List Bool)) (r : Nat) (n d : Int) (k : Nat) : Bool := decide (r ≤ k) && decide (cnt (winB bss r k) * d ≤ n * (winB bss r k).length)
end Go.Pv

