/- Contracts of base and of small functions of the sample chapter. -/
import Derived.Test.YtoakchnegkmepaaF3
set_option linter.unusedSimpArgs false
set_option linter.unusedVariables false
set_option maxRecDepth 100000
set_option maxHeartbeats 4000000
namespace Go.Pv
open Go Go.Proofs
attribute [local irreducible] PW Dr DrS DrN DrG DrH Spec SpecB runQ opP calP gdP Still

def inV (n lo hi : Int) : Bool := decide (lo ≤ n ∧ n ≤ hi)

/-- What is read later. -/
def kt_74 : List (Nat × List Nat) := [(0, [0, 1, 2]), (1, [6])]
theorem In_spec (n lo hi : Int) : Spec Try.prog 74 [.int .i64 n, .int .i64 lo, .int .i64 hi] [(none, .bool (inV n lo hi))] := by
  refine spec_of (nt := 15) (rs := [.tmp 6]) Try.func74 rfl rfl rfl rfl (by simp) (by simp [np]) (fun B => ?_)
  repeat' first
    | exact True.intro
    | refine runQ_step (fun K hK => ?_)
    | refine runQ_end ?_
    | refine PW.sregN kt_74 [] (fun K hK => ?_)
    | simp only [push_cast, ↓reduceIte, Nat.reduceAdd, Nat.reduceSub, Nat.reduceMul, Nat.reduceEqDiff, Nat.reduceLT, Nat.reduceLeDiff, Int.reduceToNat, reduceCtorEq, Int.reduceEq, Int.reduceLT, Int.reduceLE, Int.reduceAdd, Int.reduceSub, Int.reduceMul, Int.reduceNeg, MV.top, kt_74, ti3, ti4]
    | refine And.intro ?_ ?_
    | (refine hK _ ?_; clear hK K)
    | (refine hK _ ?_ ?_ <;> clear hK K)
    | apply_assumption (exfalso := false) (symm := false) only [*]
    | refine runQ_gC rfl (fun K hK => ?_)
    | refine runQ_gS rfl rfl ?_
    | refine runQ_gU rfl rfl ?_
    | (refine runQ_gT rfl (fun hc K hK => ?_) (fun hc => ?_) <;> first | (exfalso; omega) | skip)
    | (refine runQ_gF rfl (fun hc K hK => ?_) (fun hc => ?_) <;> first | (exfalso; omega) | skip)
    | refine runQ_guard rfl (fun hc K hK => ?_) (fun hc => ?_)
    | refine PW.seq (fun K hK => ?_)
    | refine PW.ret ?_
    | refine PW.skip ?_
    | refine PW.exit ?_
    | refine PW.block ?_
    | refine PW.condT rfl ?_
    | refine PW.condF rfl ?_
    | (refine PW.condD rfl (fun hc => ?_) (fun hc => ?_) <;> first | (exfalso; omega) | skip)
    | (refine PW.condN rfl (fun hc => ?_) (fun hc => ?_) <;> first | (exfalso; omega) | skip)
    | refine PW.cond rfl (fun hc => ?_) (fun hc => ?_)
    | refine PW.regQ [] ?_
    | refine PW.sdrawG kt_74 sc_74 [] hmix (by kernel_rfl) (fun K hK => ?_)
    | refine PW.drawG sc_74 [] hmix (by kernel_rfl) (fun K hK => ?_)
    | refine PW.label ?_
    | omega
    | (split <;> first | contradiction | skip)
  all_goals (unfold inV; simp [*])

/-- What is read later. -/
def kt_75 : List (Nat × List Nat) := [(0, [0, 1, 2]), (1, [6])]
theorem rin_spec (n lo hi : Int) : Spec Try.prog 75 [.int .i64 n, .int .i64 lo, .int .i64 hi] [(none, .bool (inV n lo hi))] := by
  refine spec_of (nt := 15) (rs := [.tmp 6]) Try.func75 rfl rfl rfl rfl (by simp) (by simp [np]) (fun B => ?_)
  repeat' first
    | exact True.intro
    | refine runQ_step (fun K hK => ?_)
    | refine runQ_end ?_
    | refine PW.sregN kt_75 [] (fun K hK => ?_)
    | simp only [push_cast, ↓reduceIte, Nat.reduceAdd, Nat.reduceSub, Nat.reduceMul, Nat.reduceEqDiff, Nat.reduceLT, Nat.reduceLeDiff, Int.reduceToNat, reduceCtorEq, Int.reduceEq, Int.reduceLT, Int.reduceLE, Int.reduceAdd, Int.reduceSub, Int.reduceMul, Int.reduceNeg, MV.top, kt_75, ti3, ti4]
    | refine And.intro ?_ ?_
    | (refine hK _ ?_; clear hK K)
    | (refine hK _ ?_ ?_ <;> clear hK K)
    | apply_assumption (exfalso := false) (symm := false) only [*]
    | refine runQ_gC rfl (fun K hK => ?_)
    | refine runQ_gS rfl rfl ?_
    | refine runQ_gU rfl rfl ?_
    | (refine runQ_gT rfl (fun hc K hK => ?_) (fun hc => ?_) <;> first | (exfalso; omega) | skip)
    | (refine runQ_gF rfl (fun hc K hK => ?_) (fun hc => ?_) <;> first | (exfalso; omega) | skip)
    | refine runQ_guard rfl (fun hc K hK => ?_) (fun hc => ?_)
    | refine PW.seq (fun K hK => ?_)
    | refine PW.ret ?_
    | refine PW.skip ?_
    | refine PW.exit ?_
    | refine PW.block ?_
    | refine PW.condT rfl ?_
    | refine PW.condF rfl ?_
    | (refine PW.condD rfl (fun hc => ?_) (fun hc => ?_) <;> first | (exfalso; omega) | skip)
    | (refine PW.condN rfl (fun hc => ?_) (fun hc => ?_) <;> first | (exfalso; omega) | skip)
    | refine PW.cond rfl (fun hc => ?_) (fun hc => ?_)
    | refine PW.regQ [] ?_
    | refine PW.sdrawG kt_75 sc_75 [] hmix (by kernel_rfl) (fun K hK => ?_)
    | refine PW.drawG sc_75 [] hmix (by kernel_rfl) (fun K hK => ?_)
    | refine PW.label ?_
    | omega
    | (split <;> first | contradiction | skip)
  all_goals (unfold inV; simp [*])

def whenV (b : Bool) (e : Int) : Int := if b = true then e else 0

/-- What is read later. -/
def kt_73 : List (Nat × List Nat) := [(0, [0, 1]), (1, [1, 5]), (2, [4]), (3, [4])]
theorem When_spec (b : Bool) (e : Int) : Spec Try.prog 73 [.bool b, .int .i64 e] [(none, .int .i64 (whenV b e))] := by
  refine spec_of (nt := 7) (rs := [.tmp 4]) Try.func73 rfl rfl rfl rfl (by simp) (by simp [np]) (fun B => ?_)
  repeat' first
    | exact True.intro
    | refine runQ_step (fun K hK => ?_)
    | refine runQ_end ?_
    | refine PW.sregN kt_73 [] (fun K hK => ?_)
    | simp only [push_cast, ↓reduceIte, Nat.reduceAdd, Nat.reduceSub, Nat.reduceMul, Nat.reduceEqDiff, Nat.reduceLT, Nat.reduceLeDiff, Int.reduceToNat, reduceCtorEq, Int.reduceEq, Int.reduceLT, Int.reduceLE, Int.reduceAdd, Int.reduceSub, Int.reduceMul, Int.reduceNeg, MV.top, kt_73, ti4, ti32]
    | refine And.intro ?_ ?_
    | (refine hK _ ?_; clear hK K)
    | (refine hK _ ?_ ?_ <;> clear hK K)
    | apply_assumption (exfalso := false) (symm := false) only [*]
    | refine PW.seq (fun K hK => ?_)
    | refine PW.ret ?_
    | refine PW.skip ?_
    | refine PW.exit ?_
    | refine PW.block ?_
    | refine PW.condT rfl ?_
    | refine PW.condF rfl ?_
    | (refine PW.condD rfl (fun hc => ?_) (fun hc => ?_) <;> first | (exfalso; omega) | skip)
    | (refine PW.condN rfl (fun hc => ?_) (fun hc => ?_) <;> first | (exfalso; omega) | skip)
    | refine PW.cond rfl (fun hc => ?_) (fun hc => ?_)
    | refine PW.regQ [] ?_
    | refine PW.sdrawG kt_73 sc_73 [] hmix (by kernel_rfl) (fun K hK => ?_)
    | refine PW.drawG sc_73 [] hmix (by kernel_rfl) (fun K hK => ?_)
    | refine PW.label ?_
    | omega
    | (split <;> first | contradiction | skip)
  all_goals simp [whenV, *]

def firstV : List Int → Int
  | [] => 0
  | e :: r => if e = 0 then firstV r else e

theorem ints_get {xs : List Int} {i : Nat} (h : i < xs.length) : (xs.map fun x => [MV.int .i64 x])[i]? = some [.int .i64 xs[i]] := by simp [h]

theorem firstV_drop {es : List Int} {i : Nat} (h : i < es.length) : firstV (es.drop i) = if es[i] = 0 then firstV (es.drop (i + 1)) else es[i] := by
  rw [List.drop_eq_getElem_cons h]; rfl

theorem wrap_nat {i : Nat} (h : i < 4611686018427387904) : IntKind.i64.wrap ((i : Int) + 1) = ((i + 1 : Nat) : Int) := by
  rw [wrap_id (by omega) (by omega)]; omega

/-- What is read later. -/
def kt_79 : List (Nat × List Nat) := [(0, [0]), (1, [0, 5, 6, 7]), (2, [0, 5, 6, 7, 8]), (3, [0, 4, 5, 6, 7]), (4, [0, 4, 5, 6, 7, 12]), (5, [2]), (6, [0, 5, 6, 7]), (7, [2])]
theorem First_spec (es : List Int) (hl : es.length < 4611686018427387904) : Spec Try.prog 79 [ints es] [(none, .int .i64 (firstV es))] := by
  refine spec_of (nt := 15) (rs := [.tmp 2]) Try.func79 rfl rfl rfl rfl (by simp) (by simp [np]) (fun B => ?_)
  unfold ints
  repeat' first
    | exact True.intro
    | refine runQ_step (fun K hK => ?_)
    | refine runQ_end ?_
    | refine PW.sregN kt_79 [] (fun K hK => ?_)
    | simp only [push_cast, ↓reduceIte, Nat.reduceAdd, Nat.reduceSub, Nat.reduceMul, Nat.reduceEqDiff, Nat.reduceLT, Nat.reduceLeDiff, Int.reduceToNat, reduceCtorEq, Int.reduceEq, Int.reduceLT, Int.reduceLE, Int.reduceAdd, Int.reduceSub, Int.reduceMul, Int.reduceNeg, MV.top, kt_79, ti3, ti4, ti32, ti97, List.length_map]
    | refine And.intro ?_ ?_
    | (refine hK _ ?_; clear hK K)
    | (refine hK _ ?_ ?_ <;> clear hK K)
    | apply_assumption (exfalso := false) (symm := false) only [*]
    | refine PW.seq (fun K hK => ?_)
    | refine PW.ret ?_
    | refine PW.skip ?_
    | refine PW.exit ?_
    | refine PW.block ?_
    | refine PW.condT rfl ?_
    | refine PW.condF rfl ?_
    | (refine PW.condD rfl (fun hc => ?_) (fun hc => ?_) <;> first | (exfalso; omega) | skip)
    | (refine PW.condN rfl (fun hc => ?_) (fun hc => ?_) <;> first | (exfalso; omega) | skip)
    | refine PW.cond rfl (fun hc => ?_) (fun hc => ?_)
    | refine PW.regQ [] ?_
    | refine PW.sdrawG kt_79 sc_79 [] hmix (by kernel_rfl) (fun K hK => ?_)
    | refine PW.drawG sc_79 [] hmix (by kernel_rfl) (fun K hK => ?_)
    | refine PW.label ?_
    | omega
    | (split <;> first | contradiction | skip)
  refine PW.loopN [5, 6, 7] (fun i : Nat => ⟨[(5, .sh (.list (es.map fun x => [.int .i64 x]))), (6, .sh (.int .i64 es.length)), (7, .sh (.int .i64 (i : Int)))], B⟩) (fun i => i ≤ es.length ∧ firstV (es.drop i) = firstV es) (fun i => es.length - i) 0 ?_ ⟨Nat.zero_le _, rfl⟩ (fun i hi => ?_)
  · simp only [push_cast, ↓reduceIte, Nat.reduceAdd, Nat.reduceSub, Nat.reduceMul, Nat.reduceEqDiff, Nat.reduceLT, Nat.reduceLeDiff, Int.reduceToNat, reduceCtorEq, Int.reduceEq, Int.reduceLT, Int.reduceLE, Int.reduceAdd, Int.reduceSub, Int.reduceMul, Int.reduceNeg, MV.top, kt_79, ti3, ti4, ti32, ti97]
  obtain ⟨h1, h2⟩ := hi
  by_cases hlt : i < es.length
  · have hge := ints_get hlt
    have hd := firstV_drop hlt
    have hlt2 : (i : Int) < es.length := by omega
    repeat' first
      | exact True.intro
      | refine runQ_step (fun K hK => ?_)
      | refine runQ_end ?_
      | refine PW.sregN kt_79 [] (fun K hK => ?_)
      | simp only [push_cast, ↓reduceIte, Nat.reduceAdd, Nat.reduceSub, Nat.reduceMul, Nat.reduceEqDiff, Nat.reduceLT, Nat.reduceLeDiff, Int.reduceToNat, reduceCtorEq, Int.reduceEq, Int.reduceLT, Int.reduceLE, Int.reduceAdd, Int.reduceSub, Int.reduceMul, Int.reduceNeg, MV.top, kt_79, ti3, ti4, ti32, ti97, hge, hlt2, Int.toNat_natCast, List.length_map]
      | refine And.intro ?_ ?_
      | (refine hK _ ?_; clear hK K)
      | (refine hK _ ?_ ?_ <;> clear hK K)
      | apply_assumption (exfalso := false) (symm := false) only [*]
      | refine PW.seq (fun K hK => ?_)
      | refine PW.ret ?_
      | refine PW.skip ?_
      | refine PW.exit ?_
      | refine PW.block ?_
      | refine PW.condT rfl ?_
      | refine PW.condF rfl ?_
      | (refine PW.condD rfl (fun hc => ?_) (fun hc => ?_) <;> first | (exfalso; omega) | skip)
      | (refine PW.condN rfl (fun hc => ?_) (fun hc => ?_) <;> first | (exfalso; omega) | skip)
      | refine PW.cond rfl (fun hc => ?_) (fun hc => ?_)
      | refine PW.regQ [] ?_
      | refine PW.sdrawG kt_79 sc_79 [] hmix (by kernel_rfl) (fun K hK => ?_)
      | refine PW.drawG sc_79 [] hmix (by kernel_rfl) (fun K hK => ?_)
      | refine PW.label ?_
      | omega
      | (split <;> first | contradiction | skip)
    rw [hd, if_pos hc] at h2
    exact ⟨i + 1, by rw [wrap_nat (by omega)], ⟨by omega, h2⟩, by omega⟩
  · have hlt2 : ¬ (i : Int) < es.length := by omega
    repeat' first
      | exact True.intro
      | refine runQ_step (fun K hK => ?_)
      | refine runQ_end ?_
      | refine PW.sregN kt_79 [] (fun K hK => ?_)
      | simp only [push_cast, ↓reduceIte, Nat.reduceAdd, Nat.reduceSub, Nat.reduceMul, Nat.reduceEqDiff, Nat.reduceLT, Nat.reduceLeDiff, Int.reduceToNat, reduceCtorEq, Int.reduceEq, Int.reduceLT, Int.reduceLE, Int.reduceAdd, Int.reduceSub, Int.reduceMul, Int.reduceNeg, MV.top, kt_79, ti3, ti4, ti32, ti97, hlt2]
      | refine And.intro ?_ ?_
      | (refine hK _ ?_; clear hK K)
      | (refine hK _ ?_ ?_ <;> clear hK K)
      | apply_assumption (exfalso := false) (symm := false) only [*]
      | refine PW.seq (fun K hK => ?_)
      | refine PW.ret ?_
      | refine PW.skip ?_
      | refine PW.exit ?_
      | refine PW.block ?_
      | refine PW.condT rfl ?_
      | refine PW.condF rfl ?_
      | (refine PW.condD rfl (fun hc => ?_) (fun hc => ?_) <;> first | (exfalso; omega) | skip)
      | (refine PW.condN rfl (fun hc => ?_) (fun hc => ?_) <;> first | (exfalso; omega) | skip)
      | refine PW.cond rfl (fun hc => ?_) (fun hc => ?_)
      | refine PW.regQ [] ?_
      | refine PW.sdrawG kt_79 sc_79 [] hmix (by kernel_rfl) (fun K hK => ?_)
      | refine PW.drawG sc_79 [] hmix (by kernel_rfl) (fun K hK => ?_)
      | refine PW.label ?_
      | omega
      | (split <;> first | contradiction | skip)
    rw [List.drop_of_length_le (by omega)] at h2; exact h2

/-- Where the first one is, or -1. -/
def idxV (p : Int → Bool) : List Int → Int → Int
  | [], _ => -1
  | x :: r, i => if p x = true then i else idxV p r (i + 1)

theorem idxV_drop {p : Int → Bool} {xs : List Int} {i : Nat} (h : i < xs.length) : idxV p (xs.drop i) i = if p xs[i] = true then (i : Int) else idxV p (xs.drop (i + 1)) ((i + 1 : Nat) : Int) := by
  rw [List.drop_eq_getElem_cons h]; rfl

/-- What is read later. -/
def kt_91 : List (Nat × List Nat) := [(0, [0, 1]), (1, [0, 1, 7, 8]), (2, [0, 1, 7, 8, 9]), (3, [0, 1, 5, 7, 8]), (4, [0, 1, 5, 7, 8, 16]), (5, [4]), (6, [0, 1, 7, 8]), (7, [4])]
theorem IndexFunc_spec {f : FuncId} {cap : List MV} (p : Int → Bool) (xs : List Int) (hl : xs.length < 4611686018427387904) (hcall : ∀ x ∈ xs, Spec Try.prog f (.int .i64 x :: cap) [(none, .bool (p x))]) :
    Spec Try.prog 91 [ints xs, .fn f cap] [(none, .int .i64 (idxV p xs 0))] := by
  refine spec_of (nt := 19) (rs := [.tmp 4]) Try.func91 rfl rfl rfl rfl (by simp) (by simp [np]) (fun B => ?_)
  unfold ints
  repeat' first
    | exact True.intro
    | refine runQ_step (fun K hK => ?_)
    | refine runQ_end ?_
    | refine PW.sregN kt_91 [] (fun K hK => ?_)
    | simp only [push_cast, ↓reduceIte, Nat.reduceAdd, Nat.reduceSub, Nat.reduceMul, Nat.reduceEqDiff, Nat.reduceLT, Nat.reduceLeDiff, Int.reduceToNat, reduceCtorEq, Int.reduceEq, Int.reduceLT, Int.reduceLE, Int.reduceAdd, Int.reduceSub, Int.reduceMul, Int.reduceNeg, MV.top, kt_91, ti3, ti4, ti22, ti52, List.length_map]
    | refine And.intro ?_ ?_
    | (refine hK _ ?_; clear hK K)
    | (refine hK _ ?_ ?_ <;> clear hK K)
    | apply_assumption (exfalso := false) (symm := false) only [*]
    | refine PW.seq (fun K hK => ?_)
    | refine PW.ret ?_
    | refine PW.skip ?_
    | refine PW.exit ?_
    | refine PW.block ?_
    | refine PW.condT rfl ?_
    | refine PW.condF rfl ?_
    | (refine PW.condD rfl (fun hc => ?_) (fun hc => ?_) <;> first | (exfalso; omega) | skip)
    | (refine PW.condN rfl (fun hc => ?_) (fun hc => ?_) <;> first | (exfalso; omega) | skip)
    | refine PW.cond rfl (fun hc => ?_) (fun hc => ?_)
    | refine PW.regQ [] ?_
    | refine PW.sdrawG kt_91 sc_91 [] hmix (by kernel_rfl) (fun K hK => ?_)
    | refine PW.drawG sc_91 [] hmix (by kernel_rfl) (fun K hK => ?_)
    | refine PW.label ?_
    | omega
    | (split <;> first | contradiction | skip)
  refine PW.loopN [0, 1, 7, 8] (fun i : Nat => ⟨[(0, .sh (.list (xs.map fun x => [.int .i64 x]))), (1, .sh (.fn f cap)), (7, .sh (.int .i64 xs.length)), (8, .sh (.int .i64 (i : Int)))], B⟩) (fun i => i ≤ xs.length ∧ idxV p (xs.drop i) i = idxV p xs 0) (fun i => xs.length - i) 0 ?_ ⟨Nat.zero_le _, rfl⟩ (fun i hi => ?_)
  · simp only [push_cast, ↓reduceIte, Nat.reduceAdd, Nat.reduceSub, Nat.reduceMul, Nat.reduceEqDiff, Nat.reduceLT, Nat.reduceLeDiff, Int.reduceToNat, reduceCtorEq, Int.reduceEq, Int.reduceLT, Int.reduceLE, Int.reduceAdd, Int.reduceSub, Int.reduceMul, Int.reduceNeg, MV.top, kt_91, ti3, ti4, ti22, ti52]
  obtain ⟨h1, h2⟩ := hi
  by_cases hlt : i < xs.length
  · have hge := ints_get hlt
    have hd := idxV_drop (p := p) hlt
    have hlt2 : (i : Int) < xs.length := by omega
    have hc1 := hcall xs[i] (by simp)
    rw [hd] at h2
    clear hd
    cases hp : p xs[i] with
    | true =>
      rw [hp] at hc1
      rw [hp, if_pos rfl] at h2
      repeat' first
        | exact True.intro
        | refine runQ_step (fun K hK => ?_)
        | refine runQ_end ?_
        | refine PW.sregN kt_91 [] (fun K hK => ?_)
        | simp only [push_cast, ↓reduceIte, Nat.reduceAdd, Nat.reduceSub, Nat.reduceMul, Nat.reduceEqDiff, Nat.reduceLT, Nat.reduceLeDiff, Int.reduceToNat, reduceCtorEq, Int.reduceEq, Int.reduceLT, Int.reduceLE, Int.reduceAdd, Int.reduceSub, Int.reduceMul, Int.reduceNeg, MV.top, kt_91, ti3, ti4, ti22, ti52, hge, hlt2, Int.toNat_natCast, List.length_map]
        | refine And.intro ?_ ?_
        | (refine hK _ ?_; clear hK K)
        | (refine hK _ ?_ ?_ <;> clear hK K)
        | apply_assumption (exfalso := false) (symm := false) only [*]
        | refine calP_lent rfl rfl hc1 rfl ?_
        | refine PW.seq (fun K hK => ?_)
        | refine PW.ret ?_
        | refine PW.skip ?_
        | refine PW.exit ?_
        | refine PW.block ?_
        | refine PW.condT rfl ?_
        | refine PW.condF rfl ?_
        | (refine PW.condD rfl (fun hc => ?_) (fun hc => ?_) <;> first | (exfalso; omega) | skip)
        | (refine PW.condN rfl (fun hc => ?_) (fun hc => ?_) <;> first | (exfalso; omega) | skip)
        | refine PW.cond rfl (fun hc => ?_) (fun hc => ?_)
        | refine PW.regQ [] ?_
        | refine PW.sdrawG kt_91 sc_91 [] hmix (by kernel_rfl) (fun K hK => ?_)
        | refine PW.drawG sc_91 [] hmix (by kernel_rfl) (fun K hK => ?_)
        | refine PW.label ?_
        | omega
        | (split <;> first | contradiction | skip)
      all_goals exact h2
    | false =>
      rw [hp] at hc1
      rw [hp, if_neg (by simp)] at h2
      repeat' first
        | exact True.intro
        | refine runQ_step (fun K hK => ?_)
        | refine runQ_end ?_
        | refine PW.sregN kt_91 [] (fun K hK => ?_)
        | simp only [push_cast, ↓reduceIte, Nat.reduceAdd, Nat.reduceSub, Nat.reduceMul, Nat.reduceEqDiff, Nat.reduceLT, Nat.reduceLeDiff, Int.reduceToNat, reduceCtorEq, Int.reduceEq, Int.reduceLT, Int.reduceLE, Int.reduceAdd, Int.reduceSub, Int.reduceMul, Int.reduceNeg, MV.top, kt_91, ti3, ti4, ti22, ti52, hge, hlt2, Int.toNat_natCast, List.length_map]
        | refine And.intro ?_ ?_
        | (refine hK _ ?_; clear hK K)
        | (refine hK _ ?_ ?_ <;> clear hK K)
        | apply_assumption (exfalso := false) (symm := false) only [*]
        | refine calP_lent rfl rfl hc1 rfl ?_
        | refine PW.seq (fun K hK => ?_)
        | refine PW.ret ?_
        | refine PW.skip ?_
        | refine PW.exit ?_
        | refine PW.block ?_
        | refine PW.condT rfl ?_
        | refine PW.condF rfl ?_
        | (refine PW.condD rfl (fun hc => ?_) (fun hc => ?_) <;> first | (exfalso; omega) | skip)
        | (refine PW.condN rfl (fun hc => ?_) (fun hc => ?_) <;> first | (exfalso; omega) | skip)
        | refine PW.cond rfl (fun hc => ?_) (fun hc => ?_)
        | refine PW.regQ [] ?_
        | refine PW.sdrawG kt_91 sc_91 [] hmix (by kernel_rfl) (fun K hK => ?_)
        | refine PW.drawG sc_91 [] hmix (by kernel_rfl) (fun K hK => ?_)
        | refine PW.label ?_
        | omega
        | (split <;> first | contradiction | skip)
      exact ⟨i + 1, by rw [wrap_nat (by omega)], ⟨by omega, h2⟩, by omega⟩
  · have hlt2 : ¬ (i : Int) < xs.length := by omega
    rw [List.drop_of_length_le (by omega)] at h2
    repeat' first
      | exact True.intro
      | refine runQ_step (fun K hK => ?_)
      | refine runQ_end ?_
      | refine PW.sregN kt_91 [] (fun K hK => ?_)
      | simp only [push_cast, ↓reduceIte, Nat.reduceAdd, Nat.reduceSub, Nat.reduceMul, Nat.reduceEqDiff, Nat.reduceLT, Nat.reduceLeDiff, Int.reduceToNat, reduceCtorEq, Int.reduceEq, Int.reduceLT, Int.reduceLE, Int.reduceAdd, Int.reduceSub, Int.reduceMul, Int.reduceNeg, MV.top, kt_91, ti3, ti4, ti22, ti52, hlt2]
      | refine And.intro ?_ ?_
      | (refine hK _ ?_; clear hK K)
      | (refine hK _ ?_ ?_ <;> clear hK K)
      | apply_assumption (exfalso := false) (symm := false) only [*]
      | refine PW.seq (fun K hK => ?_)
      | refine PW.ret ?_
      | refine PW.skip ?_
      | refine PW.exit ?_
      | refine PW.block ?_
      | refine PW.condT rfl ?_
      | refine PW.condF rfl ?_
      | (refine PW.condD rfl (fun hc => ?_) (fun hc => ?_) <;> first | (exfalso; omega) | skip)
      | (refine PW.condN rfl (fun hc => ?_) (fun hc => ?_) <;> first | (exfalso; omega) | skip)
      | refine PW.cond rfl (fun hc => ?_) (fun hc => ?_)
      | refine PW.regQ [] ?_
      | refine PW.sdrawG kt_91 sc_91 [] hmix (by kernel_rfl) (fun K hK => ?_)
      | refine PW.drawG sc_91 [] hmix (by kernel_rfl) (fun K hK => ?_)
      | refine PW.label ?_
      | omega
      | (split <;> first | contradiction | skip)
    all_goals exact h2

theorem idxV_any (p : Int → Bool) : ∀ (xs : List Int) (i : Int), 0 ≤ i → (0 ≤ idxV p xs i ↔ xs.any p = true)
  | [], i, h => by simp [idxV]
  | x :: r, i, h => by
    unfold idxV
    rw [List.any_cons]
    by_cases hp : p x = true
    · simp [hp, h]
    · rw [if_neg hp, idxV_any p r (i + 1) (by omega)]; simp [hp]

/-- What is read later. -/
def kt_99 : List (Nat × List Nat) := [(0, [0, 1]), (1, [4])]
theorem ContainsFunc_spec {f : FuncId} {cap : List MV} (p : Int → Bool) (xs : List Int) (hl : xs.length < 4611686018427387904) (hcall : ∀ x ∈ xs, Spec Try.prog f (.int .i64 x :: cap) [(none, .bool (p x))]) :
    Spec Try.prog 99 [ints xs, .fn f cap] [(none, .bool (xs.any p))] := by
  refine spec_of (nt := 9) (rs := [.tmp 4]) Try.func99 rfl rfl rfl rfl (by simp) (by simp [np]) (fun B => ?_)
  unfold ints
  repeat' first
    | exact True.intro
    | refine runQ_step (fun K hK => ?_)
    | refine runQ_end ?_
    | refine PW.sregN kt_99 [] (fun K hK => ?_)
    | simp only [push_cast, ↓reduceIte, Nat.reduceAdd, Nat.reduceSub, Nat.reduceMul, Nat.reduceEqDiff, Nat.reduceLT, Nat.reduceLeDiff, Int.reduceToNat, reduceCtorEq, Int.reduceEq, Int.reduceLT, Int.reduceLE, Int.reduceAdd, Int.reduceSub, Int.reduceMul, Int.reduceNeg, MV.top, kt_99, ti3, ti4, ti22, ti52]
    | refine And.intro ?_ ?_
    | (refine hK _ ?_; clear hK K)
    | (refine hK _ ?_ ?_ <;> clear hK K)
    | apply_assumption (exfalso := false) (symm := false) only [*]
    | refine calP_ret rfl rfl rfl (IndexFunc_spec p xs hl hcall) ?_
    | refine PW.seq (fun K hK => ?_)
    | refine PW.ret ?_
    | refine PW.skip ?_
    | refine PW.exit ?_
    | refine PW.block ?_
    | refine PW.condT rfl ?_
    | refine PW.condF rfl ?_
    | (refine PW.condD rfl (fun hc => ?_) (fun hc => ?_) <;> first | (exfalso; omega) | skip)
    | (refine PW.condN rfl (fun hc => ?_) (fun hc => ?_) <;> first | (exfalso; omega) | skip)
    | refine PW.cond rfl (fun hc => ?_) (fun hc => ?_)
    | refine PW.regQ [] ?_
    | refine PW.sdrawG kt_99 sc_99 [] hmix (by kernel_rfl) (fun K hK => ?_)
    | refine PW.drawG sc_99 [] hmix (by kernel_rfl) (fun K hK => ?_)
    | refine PW.label ?_
    | omega
    | (split <;> first | contradiction | skip)
  exact Bool.eq_iff_iff.2 (by rw [decide_eq_true_iff]; exact idxV_any p xs 0 (by omega))

/-- What is read later. -/
def kt_70 : List (Nat × List Nat) := [(0, [0, 1, 2]), (1, [0, 1, 2, 10]), (2, [0, 1, 2, 7]), (3, [0, 1, 2, 7, 19]), (4, [0, 1, 2]), (5, [0, 1, 2]), (6, [6])]
theorem first_spec {f : FuncId} {cap : List MV} (p : Int → Bool) (lo hi r : Int) (h0 : -4611686018427387904 < lo) (h1 : lo ≤ r) (h2 : r ≤ hi) (h3 : hi < 4611686018427387904) (hF : ∀ n, lo ≤ n → n < r → p n = false) (hT : ∀ n, r ≤ n → n < hi → p n = true)
    (hcall : ∀ n, lo ≤ n → n < hi → Spec Try.prog f (.int .i64 n :: cap) [(none, .bool (p n))]) :
    Spec Try.prog 70 [.int .i64 lo, .int .i64 hi, .fn f cap] [(none, .int .i64 r)] := by
  refine spec_of (nt := 24) (rs := [.tmp 6]) Try.func70 rfl rfl rfl rfl (by simp) (by simp [np]) (fun B => ?_)
  repeat' first
    | exact True.intro
    | refine runQ_step (fun K hK => ?_)
    | refine runQ_end ?_
    | refine PW.sregN kt_70 [] (fun K hK => ?_)
    | simp only [push_cast, ↓reduceIte, Nat.reduceAdd, Nat.reduceSub, Nat.reduceMul, Nat.reduceEqDiff, Nat.reduceLT, Nat.reduceLeDiff, Int.reduceToNat, reduceCtorEq, Int.reduceEq, Int.reduceLT, Int.reduceLE, Int.reduceAdd, Int.reduceSub, Int.reduceMul, Int.reduceNeg, MV.top, kt_70, ti3, ti4, ti52]
    | refine And.intro ?_ ?_
    | (refine hK _ ?_; clear hK K)
    | (refine hK _ ?_ ?_ <;> clear hK K)
    | apply_assumption (exfalso := false) (symm := false) only [*]
    | refine PW.seq (fun K hK => ?_)
    | refine PW.ret ?_
    | refine PW.skip ?_
    | refine PW.exit ?_
    | refine PW.block ?_
    | refine PW.condT rfl ?_
    | refine PW.condF rfl ?_
    | (refine PW.condD rfl (fun hc => ?_) (fun hc => ?_) <;> first | (exfalso; omega) | skip)
    | (refine PW.condN rfl (fun hc => ?_) (fun hc => ?_) <;> first | (exfalso; omega) | skip)
    | refine PW.cond rfl (fun hc => ?_) (fun hc => ?_)
    | refine PW.regQ [] ?_
    | refine PW.sdrawG kt_70 sc_70 [] hmix (by kernel_rfl) (fun K hK => ?_)
    | refine PW.drawG sc_70 [] hmix (by kernel_rfl) (fun K hK => ?_)
    | refine PW.label ?_
    | omega
    | (split <;> first | contradiction | skip)
  refine PW.loopN [0, 1, 2] (fun s : Int × Int => ⟨[(0, .sh (.int .i64 s.1)), (1, .sh (.int .i64 s.2)), (2, .sh (.fn f cap))], B⟩) (fun s => lo ≤ s.1 ∧ s.1 ≤ r ∧ r ≤ s.2 ∧ s.2 ≤ hi) (fun s => (s.2 - s.1).toNat) (lo, hi) ?_ ⟨by omega, h1, h2, by omega⟩ (fun s hs => ?_)
  · simp only [push_cast, ↓reduceIte, Nat.reduceAdd, Nat.reduceSub, Nat.reduceMul, Nat.reduceEqDiff, Nat.reduceLT, Nat.reduceLeDiff, Int.reduceToNat, reduceCtorEq, Int.reduceEq, Int.reduceLT, Int.reduceLE, Int.reduceAdd, Int.reduceSub, Int.reduceMul, Int.reduceNeg, MV.top, kt_70, ti3, ti4, ti52]
  obtain ⟨a, b⟩ := s
  obtain ⟨g1, g2, g3, g4⟩ := hs
  simp only at g1 g2 g3 g4
  by_cases hlt : a < b
  · obtain ⟨m, hm⟩ : ∃ m, m = a + (b - a).tdiv 2 := ⟨_, rfl⟩
    have hq : (b - a).tdiv 2 = (b - a) / 2 := Int.tdiv_eq_ediv_of_nonneg (by omega)
    have hw1 : IntKind.i64.wrap (b - a) = b - a := wrap_id (by omega) (by omega)
    have hw2 : IntKind.i64.wrap ((b - a).tdiv 2) = (b - a).tdiv 2 := wrap_id (by omega) (by omega)
    have hw3 : IntKind.i64.wrap (a + (b - a).tdiv 2) = m := by rw [← hm]; exact wrap_id (by omega) (by omega)
    have hw4 : IntKind.i64.wrap (m + 1) = m + 1 := wrap_id (by omega) (by omega)
    have hm1 : a ≤ m := by omega
    have hm2 : m < b := by omega
    have hc1 := hcall m (by omega) (by omega)
    by_cases hmr : m < r
    · rw [hF m (by omega) hmr] at hc1
      repeat' first
        | exact True.intro
        | refine runQ_step (fun K hK => ?_)
        | refine runQ_end ?_
        | refine PW.sregN kt_70 [] (fun K hK => ?_)
        | simp only [push_cast, ↓reduceIte, Nat.reduceAdd, Nat.reduceSub, Nat.reduceMul, Nat.reduceEqDiff, Nat.reduceLT, Nat.reduceLeDiff, Int.reduceToNat, reduceCtorEq, Int.reduceEq, Int.reduceLT, Int.reduceLE, Int.reduceAdd, Int.reduceSub, Int.reduceMul, Int.reduceNeg, MV.top, kt_70, ti3, ti4, ti52, hlt, hw1, hw2, hw3, hw4]
        | refine And.intro ?_ ?_
        | (refine hK _ ?_; clear hK K)
        | (refine hK _ ?_ ?_ <;> clear hK K)
        | apply_assumption (exfalso := false) (symm := false) only [*]
        | refine calP_lent rfl rfl hc1 rfl ?_
        | refine PW.seq (fun K hK => ?_)
        | refine PW.ret ?_
        | refine PW.skip ?_
        | refine PW.exit ?_
        | refine PW.block ?_
        | refine PW.condT rfl ?_
        | refine PW.condF rfl ?_
        | (refine PW.condD rfl (fun hc => ?_) (fun hc => ?_) <;> first | (exfalso; omega) | skip)
        | (refine PW.condN rfl (fun hc => ?_) (fun hc => ?_) <;> first | (exfalso; omega) | skip)
        | refine PW.cond rfl (fun hc => ?_) (fun hc => ?_)
        | refine PW.regQ [] ?_
        | refine PW.sdrawG kt_70 sc_70 [] hmix (by kernel_rfl) (fun K hK => ?_)
        | refine PW.drawG sc_70 [] hmix (by kernel_rfl) (fun K hK => ?_)
        | refine PW.label ?_
        | omega
        | (split <;> first | contradiction | skip)
      exact ⟨(m + 1, b), rfl, ⟨by omega, by omega, by omega, by omega⟩, by simp only; omega⟩
    · rw [hT m (by omega) (by omega)] at hc1
      repeat' first
        | exact True.intro
        | refine runQ_step (fun K hK => ?_)
        | refine runQ_end ?_
        | refine PW.sregN kt_70 [] (fun K hK => ?_)
        | simp only [push_cast, ↓reduceIte, Nat.reduceAdd, Nat.reduceSub, Nat.reduceMul, Nat.reduceEqDiff, Nat.reduceLT, Nat.reduceLeDiff, Int.reduceToNat, reduceCtorEq, Int.reduceEq, Int.reduceLT, Int.reduceLE, Int.reduceAdd, Int.reduceSub, Int.reduceMul, Int.reduceNeg, MV.top, kt_70, ti3, ti4, ti52, hlt, hw1, hw2, hw3, hw4]
        | refine And.intro ?_ ?_
        | (refine hK _ ?_; clear hK K)
        | (refine hK _ ?_ ?_ <;> clear hK K)
        | apply_assumption (exfalso := false) (symm := false) only [*]
        | refine calP_lent rfl rfl hc1 rfl ?_
        | refine PW.seq (fun K hK => ?_)
        | refine PW.ret ?_
        | refine PW.skip ?_
        | refine PW.exit ?_
        | refine PW.block ?_
        | refine PW.condT rfl ?_
        | refine PW.condF rfl ?_
        | (refine PW.condD rfl (fun hc => ?_) (fun hc => ?_) <;> first | (exfalso; omega) | skip)
        | (refine PW.condN rfl (fun hc => ?_) (fun hc => ?_) <;> first | (exfalso; omega) | skip)
        | refine PW.cond rfl (fun hc => ?_) (fun hc => ?_)
        | refine PW.regQ [] ?_
        | refine PW.sdrawG kt_70 sc_70 [] hmix (by kernel_rfl) (fun K hK => ?_)
        | refine PW.drawG sc_70 [] hmix (by kernel_rfl) (fun K hK => ?_)
        | refine PW.label ?_
        | omega
        | (split <;> first | contradiction | skip)
      exact ⟨(a, m), rfl, ⟨by omega, by omega, by omega, by omega⟩, by simp only; omega⟩
  · skip
    repeat' first
      | exact True.intro
      | refine runQ_step (fun K hK => ?_)
      | refine runQ_end ?_
      | refine PW.sregN kt_70 [] (fun K hK => ?_)
      | simp only [push_cast, ↓reduceIte, Nat.reduceAdd, Nat.reduceSub, Nat.reduceMul, Nat.reduceEqDiff, Nat.reduceLT, Nat.reduceLeDiff, Int.reduceToNat, reduceCtorEq, Int.reduceEq, Int.reduceLT, Int.reduceLE, Int.reduceAdd, Int.reduceSub, Int.reduceMul, Int.reduceNeg, MV.top, kt_70, ti3, ti4, ti52, hlt]
      | refine And.intro ?_ ?_
      | (refine hK _ ?_; clear hK K)
      | (refine hK _ ?_ ?_ <;> clear hK K)
      | apply_assumption (exfalso := false) (symm := false) only [*]
      | refine PW.seq (fun K hK => ?_)
      | refine PW.ret ?_
      | refine PW.skip ?_
      | refine PW.exit ?_
      | refine PW.block ?_
      | refine PW.condT rfl ?_
      | refine PW.condF rfl ?_
      | (refine PW.condD rfl (fun hc => ?_) (fun hc => ?_) <;> first | (exfalso; omega) | skip)
      | (refine PW.condN rfl (fun hc => ?_) (fun hc => ?_) <;> first | (exfalso; omega) | skip)
      | refine PW.cond rfl (fun hc => ?_) (fun hc => ?_)
      | refine PW.regQ [] ?_
      | refine PW.sdrawG kt_70 sc_70 [] hmix (by kernel_rfl) (fun K hK => ?_)
      | refine PW.drawG sc_70 [] hmix (by kernel_rfl) (fun K hK => ?_)
      | refine PW.label ?_
      | omega
      | (split <;> first | contradiction | skip)
end Go.Pv

