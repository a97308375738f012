/- Contracts of depths. -/
import Derived.Test.YtoakchnegkmepaaF18
set_option linter.unusedSimpArgs false
set_option linter.unusedVariables false
set_option maxRecDepth 100000
set_option maxHeartbeats 1000000
namespace Go.Pv
open Go Go.Proofs
attribute [local irreducible] PW Dr DrS DrN DrG DrH Spec SpecB runQ opP calP gdP Still

def relStep (ls : List Int) (q : List Bool × Int) : List Bool × Int := (q.1 ++ [decide (nextV ls (q.2 + 1) (pickV ls q.2 [1, 2, 3, 9]) = 0)], q.2 + 1 + 1)
def relIt (ls : List Int) (a : Int) : Nat → List Bool × Int
  | 0 => ([], a)
  | n + 1 => relStep ls (relIt ls a n)
theorem relIt_len (ls : List Int) (a : Int) : ∀ n, (relIt ls a n).1.length = n ∧ (relIt ls a n).2 = a + 2 * n
  | 0 => by simp [relIt]
  | n + 1 => by
    obtain ⟨h1, h2⟩ := relIt_len ls a n
    have e : relIt ls a (n + 1) = relStep ls (relIt ls a n) := rfl
    rw [e]
    refine ⟨by simp [relStep, h1], ?_⟩
    show (relIt ls a n).2 + 1 + 1 = a + 2 * ((n + 1 : Nat) : Int)
    omega

/-- What is read later. -/
def kt_47 : List (Nat × List Nat) := [(0, [0]), (1, [0, 3, 16]), (2, [0, 3, 6, 7, 16]), (3, [0, 3, 6, 7, 8, 16]), (4, [0, 3, 6, 7, 16]), (5, [0, 3, 6, 7, 16]), (6, [2, 3, 16, 18])]
theorem Relevant_spec0 (ls : List Int) (at_ : Int) (h0 : 0 ≤ at_) (h1 : at_ < 1000000000) : ∃ bs a2, bs.length ≤ 20 ∧ (at_ ≤ a2 ∧ a2 ≤ at_ + 41) ∧ SpecB Try.prog 47 [.ptr 0 0] [strm ls at_] [(none, bools bs)] [strm ls a2] := by
  have hp := pickV_mem (ls := ls) (at_ := at_) (xs := [0, 1, 3, 8, 20]) (by simp) (by simp)
  simp only [List.mem_cons, List.not_mem_nil, or_false] at hp
  have ep := fun B hB => @Pick_spec B 0 ls at_ [0, 1, 3, 8, 20] hB (by omega) (by omega) (by simp) (by simp)
  generalize pickV ls at_ [0, 1, 3, 8, 20] = m at ep hp
  have hm : 0 ≤ m ∧ m ≤ 20 := by omega
  clear hp
  obtain ⟨k, rfl⟩ : ∃ k : Nat, m = k := ⟨m.toNat, by omega⟩
  obtain ⟨l1, l2⟩ := relIt_len ls (at_ + 1) k
  refine ⟨(relIt ls (at_ + 1) k).1, (relIt ls (at_ + 1) k).2, by omega, by omega, ?_⟩
  clear l1 l2
  have hnp := np_bools (relIt ls (at_ + 1) k).1
  have hfin : relIt ls (at_ + 1) k = relIt ls (at_ + 1) k := rfl
  unfold bools at *
  refine specB_ofA (nt := 19) (rs := [.tmp 2]) Try.func47 rfl rfl rfl rfl (by simp) (by simp) (by intro x hx; simp only [List.mem_cons, List.not_mem_nil, or_false] at hx; subst hx; exact ⟨rfl, hnp⟩) (by intro b hb; simp only [List.mem_cons, List.not_mem_nil, or_false] at hb; subst hb; exact npB_strm _ _) ?_
  clear hnp
  repeat' first
    | exact True.intro
    | refine runQ_step (fun K hK => ?_)
    | refine runQ_end ?_
    | refine PW.sregN kt_47 [] (fun K hK => ?_)
    | simp only [push_cast, ↓reduceIte, Nat.reduceAdd, Nat.reduceSub, Nat.reduceMul, Nat.reduceEqDiff, Nat.reduceLT, Nat.reduceLeDiff, Int.reduceToNat, reduceCtorEq, Int.reduceEq, Int.reduceLT, Int.reduceLE, Int.reduceAdd, Int.reduceSub, Int.reduceMul, Int.reduceNeg, MV.top, kt_47, ti1, ti2, ti3, ti4, ti5, ti22, ti23, ti25, ti69, strm]
    | refine And.intro ?_ ?_
    | (refine hK _ ?_; clear hK K)
    | (refine hK _ ?_ ?_ <;> clear hK K)
    | apply_assumption (exfalso := false) (symm := false) only [*]
    | refine calP_box rfl rfl (ep _ rfl) ?_
    | refine PW.seq (fun K hK => ?_)
    | refine PW.ret ?_
    | refine PW.skip ?_
    | refine PW.exit ?_
    | refine PW.block ?_
    | refine PW.condT rfl ?_
    | refine PW.condF rfl ?_
    | (refine PW.condD rfl (fun hc => ?_) (fun hc => ?_) <;> first | (exfalso; omega) | skip)
    | (refine PW.condN rfl (fun hc => ?_) (fun hc => ?_) <;> first | (exfalso; omega) | skip)
    | refine PW.cond rfl (fun hc => ?_) (fun hc => ?_)
    | refine PW.regQ [] ?_
    | refine PW.sdrawG kt_47 sc_47 [] hmix (by kernel_rfl) (fun K hK => ?_)
    | refine PW.drawG sc_47 [] hmix (by kernel_rfl) (fun K hK => ?_)
    | refine PW.label ?_
    | omega
    | (split <;> first | contradiction | skip)
  clear ep
  refine PW.loopN [0, 3, 6, 7] (fun i : Nat => ⟨[(0, .sh (.ptr 0 0)), (3, .own 1 (.list ((relIt ls (at_ + 1) i).1.map boolc))), (6, .sh (.int .i64 (k : Int))), (7, .sh (.int .i64 (i : Int)))], [strm ls (relIt ls (at_ + 1) i).2]⟩) (fun i => i ≤ k) (fun i => k - i) 0 ?_ (Nat.zero_le _) (fun i hi => ?_)
  · simp only [push_cast, ↓reduceIte, Nat.reduceAdd, Nat.reduceSub, Nat.reduceMul, Nat.reduceEqDiff, Nat.reduceLT, Nat.reduceLeDiff, Int.reduceToNat, reduceCtorEq, Int.reduceEq, Int.reduceLT, Int.reduceLE, Int.reduceAdd, Int.reduceSub, Int.reduceMul, Int.reduceNeg, MV.top, kt_47, ti1, ti2, ti3, ti4, ti5, ti22, ti23, ti25, ti69, strm]
    rfl
  by_cases hlt : i < k
  · obtain ⟨l1, l2⟩ := relIt_len ls (at_ + 1) i
    have hst : relIt ls (at_ + 1) (i + 1) = relStep ls (relIt ls (at_ + 1) i) := rfl
    generalize relIt ls (at_ + 1) i = q at *
    obtain ⟨bs, a⟩ := q
    simp only at l1 l2 ⊢
    have hlt2 : (i : Int) < k := by omega
    have hle : bs.length + 1 ≤ 1000000000 := by omega
    have e1 := fun B hB => @Pick_spec B 0 ls a [1, 2, 3, 9] hB (by omega) (by omega) (by simp) (by simp)
    have e2 := fun B hB => @Flip_spec B 0 ls (a + 1) (pickV ls a [1, 2, 3, 9]) hB (by omega) (by omega)
    have hwi := wrap_nat (i := i) (by omega)
    have hmp : bs.map boolc ++ [[.bool (decide (nextV ls (a + 1) (pickV ls a [1, 2, 3, 9]) = 0))]] = (bs ++ [decide (nextV ls (a + 1) (pickV ls a [1, 2, 3, 9]) = 0)]).map boolc := by rw [List.map_append]; rfl
    repeat' first
      | exact True.intro
      | refine runQ_step (fun K hK => ?_)
      | refine runQ_end ?_
      | refine PW.sregN kt_47 [] (fun K hK => ?_)
      | simp only [push_cast, ↓reduceIte, Nat.reduceAdd, Nat.reduceSub, Nat.reduceMul, Nat.reduceEqDiff, Nat.reduceLT, Nat.reduceLeDiff, Int.reduceToNat, reduceCtorEq, Int.reduceEq, Int.reduceLT, Int.reduceLE, Int.reduceAdd, Int.reduceSub, Int.reduceMul, Int.reduceNeg, MV.top, kt_47, ti1, ti2, ti3, ti4, ti5, ti22, ti23, ti25, ti69, strm, hlt2, hwi, hmp, List.length_map]
      | refine And.intro ?_ ?_
      | (refine hK _ ?_; clear hK K)
      | (refine hK _ ?_ ?_ <;> clear hK K)
      | apply_assumption (exfalso := false) (symm := false) only [*]
      | refine calP_box rfl rfl (e1 _ rfl) ?_
      | refine calP_box rfl rfl (e2 _ rfl) ?_
      | refine PW.seq (fun K hK => ?_)
      | refine PW.ret ?_
      | refine PW.skip ?_
      | refine PW.exit ?_
      | refine PW.block ?_
      | refine PW.condT rfl ?_
      | refine PW.condF rfl ?_
      | (refine PW.condD rfl (fun hc => ?_) (fun hc => ?_) <;> first | (exfalso; omega) | skip)
      | (refine PW.condN rfl (fun hc => ?_) (fun hc => ?_) <;> first | (exfalso; omega) | skip)
      | refine PW.cond rfl (fun hc => ?_) (fun hc => ?_)
      | refine PW.regQ [] ?_
      | refine PW.sdrawG kt_47 sc_47 [] hmix (by kernel_rfl) (fun K hK => ?_)
      | refine PW.drawG sc_47 [] hmix (by kernel_rfl) (fun K hK => ?_)
      | refine PW.label ?_
      | omega
      | (split <;> first | contradiction | skip)
    all_goals exact ⟨i + 1, by rw [hst]; rfl, by omega, by omega⟩
  · obtain rfl : i = k := by omega
    have hlt2 : ¬ (i : Int) < i := by omega
    generalize relIt ls (at_ + 1) i = q at *
    repeat' first
      | exact True.intro
      | refine runQ_step (fun K hK => ?_)
      | refine runQ_end ?_
      | refine PW.sregN kt_47 [] (fun K hK => ?_)
      | simp only [push_cast, ↓reduceIte, Nat.reduceAdd, Nat.reduceSub, Nat.reduceMul, Nat.reduceEqDiff, Nat.reduceLT, Nat.reduceLeDiff, Int.reduceToNat, reduceCtorEq, Int.reduceEq, Int.reduceLT, Int.reduceLE, Int.reduceAdd, Int.reduceSub, Int.reduceMul, Int.reduceNeg, MV.top, kt_47, ti1, ti2, ti3, ti4, ti5, ti22, ti23, ti25, ti69, strm, hlt2]
      | refine And.intro ?_ ?_
      | (refine hK _ ?_; clear hK K)
      | (refine hK _ ?_ ?_ <;> clear hK K)
      | apply_assumption (exfalso := false) (symm := false) only [*]
      | refine PW.seq (fun K hK => ?_)
      | refine PW.ret ?_
      | refine PW.skip ?_
      | refine PW.exit ?_
      | refine PW.block ?_
      | refine PW.condT rfl ?_
      | refine PW.condF rfl ?_
      | (refine PW.condD rfl (fun hc => ?_) (fun hc => ?_) <;> first | (exfalso; omega) | skip)
      | (refine PW.condN rfl (fun hc => ?_) (fun hc => ?_) <;> first | (exfalso; omega) | skip)
      | refine PW.cond rfl (fun hc => ?_) (fun hc => ?_)
      | refine PW.regQ [] ?_
      | refine PW.sdrawG kt_47 sc_47 [] hmix (by kernel_rfl) (fun K hK => ?_)
      | refine PW.drawG sc_47 [] hmix (by kernel_rfl) (fun K hK => ?_)
      | refine PW.label ?_
      | omega
      | (split <;> first | contradiction | skip)
    all_goals exact ⟨[], rfl⟩

theorem Relevant_spec (ls : List Int) (at_ : Int) (h0 : 0 ≤ at_) (h1 : at_ < 1000000000) : ∃ bs a2, bs.length ≤ 20 ∧ (at_ ≤ a2 ∧ a2 ≤ at_ + 41) ∧ ∀ (B : List (Option (List Ct))) (k : Nat), B[k]? = some (strm ls at_) → SpecB Try.prog 47 [.ptr k 0] B [(none, bools bs)] (B.set k (strm ls a2)) := by
  obtain ⟨bs, a2, h2, h3, h4⟩ := Relevant_spec0 ls at_ h0 h1
  exact ⟨bs, a2, h2, h3, fun B k hB => SpecB.frame h4 (by simp) (by intro x hx; simp only [List.mem_cons, List.not_mem_nil, or_false] at hx; subst hx; exact ⟨rfl, np_bools bs⟩) (npB_strm _ _) (npB_strm _ _) hB⟩

def shareL : List (List MV) := [[.int .i64 1, .int .i64 2], [.int .i64 0, .int .i64 1], [.int .i64 1, .int .i64 1], [.int .i64 2, .int .i64 4], [.int .i64 1, .int .i64 3], [.int .i64 999999, .int .i64 1000000], [.int .i64 3, .int .i64 2], [.int .i64 (-1), .int .i64 2], [.int .i64 1, .int .i64 0], [.int .i64 1, .int .i64 1000001]]

/-- What is read later. -/
def kt_48 : List (Nat × List Nat) := [(0, [0, 2]), (1, [2])]
theorem Share_spec0 (ls : List Int) (at_ : Int) (h0 : 0 ≤ at_) (h1 : at_ < 1000000000) : ∃ n d, SpecB Try.prog 48 [.ptr 0 0] [strm ls at_] [(none, fracV n d)] [strm ls (at_ + 1)] := by
  have hp := pickV_mem (ls := ls) (at_ := at_) (xs := [0, 0, 1, 2, 3, 4, 4, 5, 6, 7, 8, 9]) (by simp) (by simp)
  simp only [List.mem_cons, List.not_mem_nil, or_false] at hp
  have ep := fun B hB => @Pick_spec B 0 ls at_ [0, 0, 1, 2, 3, 4, 4, 5, 6, 7, 8, 9] hB (by omega) (by omega) (by simp) (by simp)
  generalize pickV ls at_ [0, 0, 1, 2, 3, 4, 4, 5, 6, 7, 8, 9] = j at ep hp
  have hj0 : 0 ≤ j := by omega
  have hj1 : j < 10 := by omega
  obtain ⟨n, d, hget⟩ : ∃ n d, shareL[j.toNat]? = some [.int .i64 n, .int .i64 d] := by
    rcases hp with rfl | rfl | rfl | rfl | rfl | rfl | rfl | rfl | rfl | rfl | rfl | rfl <;> exact ⟨_, _, rfl⟩
  unfold shareL at hget
  clear hp
  refine ⟨n, d, ?_⟩
  unfold fracV
  refine specB_ofA (nt := 19) (rs := [.cell 2 30]) Try.func48 rfl rfl rfl rfl (by simp) (by simp) (by simp [npR, np, npL]) (by simp [npB_strm]) ?_
  repeat' first
    | exact True.intro
    | refine runQ_step (fun K hK => ?_)
    | refine runQ_end ?_
    | refine PW.sregN kt_48 [] (fun K hK => ?_)
    | simp only [push_cast, ↓reduceIte, Nat.reduceAdd, Nat.reduceSub, Nat.reduceMul, Nat.reduceEqDiff, Nat.reduceLT, Nat.reduceLeDiff, Int.reduceToNat, reduceCtorEq, Int.reduceEq, Int.reduceLT, Int.reduceLE, Int.reduceAdd, Int.reduceSub, Int.reduceMul, Int.reduceNeg, MV.top, kt_48, ti1, ti2, ti3, ti4, ti5, ti6, ti7, ti8, ti9, ti10, ti11, ti12, ti22, ti23, ti25, ti30, ti91, eqt7, eqt8, eqt30, strm, hj0, hj1, hget]
    | refine And.intro ?_ ?_
    | (refine hK _ ?_; clear hK K)
    | (refine hK _ ?_ ?_ <;> clear hK K)
    | apply_assumption (exfalso := false) (symm := false) only [*]
    | refine calP_box rfl rfl (ep _ rfl) ?_
    | refine PW.seq (fun K hK => ?_)
    | refine PW.ret ?_
    | refine PW.skip ?_
    | refine PW.exit ?_
    | refine PW.block ?_
    | refine PW.condT rfl ?_
    | refine PW.condF rfl ?_
    | (refine PW.condD rfl (fun hc => ?_) (fun hc => ?_) <;> first | (exfalso; omega) | skip)
    | (refine PW.condN rfl (fun hc => ?_) (fun hc => ?_) <;> first | (exfalso; omega) | skip)
    | refine PW.cond rfl (fun hc => ?_) (fun hc => ?_)
    | refine PW.regQ [] ?_
    | refine PW.sdrawG kt_48 sc_48 [] hmix (by kernel_rfl) (fun K hK => ?_)
    | refine PW.drawG sc_48 [] hmix (by kernel_rfl) (fun K hK => ?_)
    | refine PW.label ?_
    | omega
    | (split <;> first | contradiction | skip)

theorem Share_spec (ls : List Int) (at_ : Int) (h0 : 0 ≤ at_) (h1 : at_ < 1000000000) : ∃ n d, ∀ (B : List (Option (List Ct))) (k : Nat), B[k]? = some (strm ls at_) → SpecB Try.prog 48 [.ptr k 0] B [(none, fracV n d)] (B.set k (strm ls (at_ + 1))) := by
  obtain ⟨n, d, h4⟩ := Share_spec0 ls at_ h0 h1
  exact ⟨n, d, fun B k hB => SpecB.frame h4 (by simp) (by simp [npR, np, npL, fracV]) (npB_strm _ _) (npB_strm _ _) hB⟩

def shareOk (n d : Int) : Bool := inV d 1 1000000 && inV n 0 d

/-- What is read later. -/
def kt_89 : List (Nat × List Nat) := [(0, [1]), (1, [2])]
theorem shareError_spec (n d : Int) : Spec Try.prog 89 [fracV n d] [(none, .int .i64 (whenV (!shareOk n d) 1))] := by
  unfold fracV
  cases q1 : inV d 1 1000000 with
  | false =>
    have hr : shareOk n d = false := by simp [shareOk, q1]
    rw [hr]
    refine spec_of (nt := 16) (rs := [.tmp 2]) Try.func89 rfl rfl rfl rfl (by simp) (by simp [np]) (fun B => ?_)
    repeat' first
      | exact True.intro
      | refine runQ_step (fun K hK => ?_)
      | refine runQ_end ?_
      | refine PW.sregN kt_89 [1] (fun K hK => ?_)
      | simp only [push_cast, ↓reduceIte, Nat.reduceAdd, Nat.reduceSub, Nat.reduceMul, Nat.reduceEqDiff, Nat.reduceLT, Nat.reduceLeDiff, Int.reduceToNat, reduceCtorEq, Int.reduceEq, Int.reduceLT, Int.reduceLE, Int.reduceAdd, Int.reduceSub, Int.reduceMul, Int.reduceNeg, MV.top, kt_89, ti1, ti3, ti4, ti30, ti32, eqt30, q1]
      | refine And.intro ?_ ?_
      | (refine hK _ ?_; clear hK K)
      | (refine hK _ ?_ ?_ <;> clear hK K)
      | apply_assumption (exfalso := false) (symm := false) only [*]
      | refine runQ_gC rfl (fun K hK => ?_)
      | refine runQ_gS rfl rfl ?_
      | refine runQ_gU rfl rfl ?_
      | (refine runQ_gT rfl (fun hc K hK => ?_) (fun hc => ?_) <;> first | (exfalso; omega) | skip)
      | (refine runQ_gF rfl (fun hc K hK => ?_) (fun hc => ?_) <;> first | (exfalso; omega) | skip)
      | refine runQ_guard rfl (fun hc K hK => ?_) (fun hc => ?_)
      | refine calP_lent rfl rfl (In_spec _ _ _) rfl ?_
      | refine calP_lent rfl rfl (When_spec _ _) rfl ?_
      | refine PW.seq (fun K hK => ?_)
      | refine PW.ret ?_
      | refine PW.skip ?_
      | refine PW.exit ?_
      | refine PW.block ?_
      | refine PW.condT rfl ?_
      | refine PW.condF rfl ?_
      | (refine PW.condD rfl (fun hc => ?_) (fun hc => ?_) <;> first | (exfalso; omega) | skip)
      | (refine PW.condN rfl (fun hc => ?_) (fun hc => ?_) <;> first | (exfalso; omega) | skip)
      | refine PW.cond rfl (fun hc => ?_) (fun hc => ?_)
      | refine PW.regQ [1] ?_
      | refine PW.sdrawG kt_89 sc_89 [1] hmix (by kernel_rfl) (fun K hK => ?_)
      | refine PW.drawG sc_89 [1] hmix (by kernel_rfl) (fun K hK => ?_)
      | refine PW.label ?_
      | omega
      | (split <;> first | contradiction | skip)
  | true =>
    cases q2 : inV n 0 d with
    | false =>
      have hr : shareOk n d = false := by simp [shareOk, q1, q2]
      rw [hr]
      refine spec_of (nt := 16) (rs := [.tmp 2]) Try.func89 rfl rfl rfl rfl (by simp) (by simp [np]) (fun B => ?_)
      repeat' first
        | exact True.intro
        | refine runQ_step (fun K hK => ?_)
        | refine runQ_end ?_
        | refine PW.sregN kt_89 [1] (fun K hK => ?_)
        | simp only [push_cast, ↓reduceIte, Nat.reduceAdd, Nat.reduceSub, Nat.reduceMul, Nat.reduceEqDiff, Nat.reduceLT, Nat.reduceLeDiff, Int.reduceToNat, reduceCtorEq, Int.reduceEq, Int.reduceLT, Int.reduceLE, Int.reduceAdd, Int.reduceSub, Int.reduceMul, Int.reduceNeg, MV.top, kt_89, ti1, ti3, ti4, ti30, ti32, eqt30, q1, q2]
        | refine And.intro ?_ ?_
        | (refine hK _ ?_; clear hK K)
        | (refine hK _ ?_ ?_ <;> clear hK K)
        | apply_assumption (exfalso := false) (symm := false) only [*]
        | refine runQ_gC rfl (fun K hK => ?_)
        | refine runQ_gS rfl rfl ?_
        | refine runQ_gU rfl rfl ?_
        | (refine runQ_gT rfl (fun hc K hK => ?_) (fun hc => ?_) <;> first | (exfalso; omega) | skip)
        | (refine runQ_gF rfl (fun hc K hK => ?_) (fun hc => ?_) <;> first | (exfalso; omega) | skip)
        | refine runQ_guard rfl (fun hc K hK => ?_) (fun hc => ?_)
        | refine calP_lent rfl rfl (In_spec _ _ _) rfl ?_
        | refine calP_lent rfl rfl (When_spec _ _) rfl ?_
        | refine PW.seq (fun K hK => ?_)
        | refine PW.ret ?_
        | refine PW.skip ?_
        | refine PW.exit ?_
        | refine PW.block ?_
        | refine PW.condT rfl ?_
        | refine PW.condF rfl ?_
        | (refine PW.condD rfl (fun hc => ?_) (fun hc => ?_) <;> first | (exfalso; omega) | skip)
        | (refine PW.condN rfl (fun hc => ?_) (fun hc => ?_) <;> first | (exfalso; omega) | skip)
        | refine PW.cond rfl (fun hc => ?_) (fun hc => ?_)
        | refine PW.regQ [1] ?_
        | refine PW.sdrawG kt_89 sc_89 [1] hmix (by kernel_rfl) (fun K hK => ?_)
        | refine PW.drawG sc_89 [1] hmix (by kernel_rfl) (fun K hK => ?_)
        | refine PW.label ?_
        | omega
        | (split <;> first | contradiction | skip)
    | true =>
      have hr : shareOk n d = true := by simp [shareOk, q1, q2]
      rw [hr]
      refine spec_of (nt := 16) (rs := [.tmp 2]) Try.func89 rfl rfl rfl rfl (by simp) (by simp [np]) (fun B => ?_)
      repeat' first
        | exact True.intro
        | refine runQ_step (fun K hK => ?_)
        | refine runQ_end ?_
        | refine PW.sregN kt_89 [1] (fun K hK => ?_)
        | simp only [push_cast, ↓reduceIte, Nat.reduceAdd, Nat.reduceSub, Nat.reduceMul, Nat.reduceEqDiff, Nat.reduceLT, Nat.reduceLeDiff, Int.reduceToNat, reduceCtorEq, Int.reduceEq, Int.reduceLT, Int.reduceLE, Int.reduceAdd, Int.reduceSub, Int.reduceMul, Int.reduceNeg, MV.top, kt_89, ti1, ti3, ti4, ti30, ti32, eqt30, q1, q2]
        | refine And.intro ?_ ?_
        | (refine hK _ ?_; clear hK K)
        | (refine hK _ ?_ ?_ <;> clear hK K)
        | apply_assumption (exfalso := false) (symm := false) only [*]
        | refine runQ_gC rfl (fun K hK => ?_)
        | refine runQ_gS rfl rfl ?_
        | refine runQ_gU rfl rfl ?_
        | (refine runQ_gT rfl (fun hc K hK => ?_) (fun hc => ?_) <;> first | (exfalso; omega) | skip)
        | (refine runQ_gF rfl (fun hc K hK => ?_) (fun hc => ?_) <;> first | (exfalso; omega) | skip)
        | refine runQ_guard rfl (fun hc K hK => ?_) (fun hc => ?_)
        | refine calP_lent rfl rfl (In_spec _ _ _) rfl ?_
        | refine calP_lent rfl rfl (When_spec _ _) rfl ?_
        | refine PW.seq (fun K hK => ?_)
        | refine PW.ret ?_
        | refine PW.skip ?_
        | refine PW.exit ?_
        | refine PW.block ?_
        | refine PW.condT rfl ?_
        | refine PW.condF rfl ?_
        | (refine PW.condD rfl (fun hc => ?_) (fun hc => ?_) <;> first | (exfalso; omega) | skip)
        | (refine PW.condN rfl (fun hc => ?_) (fun hc => ?_) <;> first | (exfalso; omega) | skip)
        | refine PW.cond rfl (fun hc => ?_) (fun hc => ?_)
        | refine PW.regQ [1] ?_
        | refine PW.sdrawG kt_89 sc_89 [1] hmix (by kernel_rfl) (fun K hK => ?_)
        | refine PW.drawG sc_89 [1] hmix (by kernel_rfl) (fun K hK => ?_)
        | refine PW.label ?_
        | omega
        | (split <;> first | contradiction | skip)

/-- What is read later. -/
def kt_50 : List (Nat × List Nat) := [(0, [1]), (1, [14]), (2, [2]), (3, [2])]
theorem ShareFault_spec (n d : Int) : Spec Try.prog 50 [fracV n d] [(none, .int .i64 (whenV (!shareOk n d) 1))] := by
  unfold fracV
  cases q1 : inV d 1 1000000 with
  | false =>
    have hr : shareOk n d = false := by simp [shareOk, q1]
    rw [hr]
    refine spec_of (nt := 15) (rs := [.tmp 2]) Try.func50 rfl rfl rfl rfl (by simp) (by simp [np]) (fun B => ?_)
    repeat' first
      | exact True.intro
      | refine runQ_step (fun K hK => ?_)
      | refine runQ_end ?_
      | refine PW.sregN kt_50 [1] (fun K hK => ?_)
      | simp only [push_cast, ↓reduceIte, Nat.reduceAdd, Nat.reduceSub, Nat.reduceMul, Nat.reduceEqDiff, Nat.reduceLT, Nat.reduceLeDiff, Int.reduceToNat, reduceCtorEq, Int.reduceEq, Int.reduceLT, Int.reduceLE, Int.reduceAdd, Int.reduceSub, Int.reduceMul, Int.reduceNeg, MV.top, kt_50, ti1, ti3, ti4, ti30, ti32, eqt30, q1, whenV]
      | refine And.intro ?_ ?_
      | (refine hK _ ?_; clear hK K)
      | (refine hK _ ?_ ?_ <;> clear hK K)
      | apply_assumption (exfalso := false) (symm := false) only [*]
      | refine runQ_gC rfl (fun K hK => ?_)
      | refine runQ_gS rfl rfl ?_
      | refine runQ_gU rfl rfl ?_
      | (refine runQ_gT rfl (fun hc K hK => ?_) (fun hc => ?_) <;> first | (exfalso; omega) | skip)
      | (refine runQ_gF rfl (fun hc K hK => ?_) (fun hc => ?_) <;> first | (exfalso; omega) | skip)
      | refine runQ_guard rfl (fun hc K hK => ?_) (fun hc => ?_)
      | refine calP_lent rfl rfl (rin_spec _ _ _) rfl ?_
      | refine PW.seq (fun K hK => ?_)
      | refine PW.ret ?_
      | refine PW.skip ?_
      | refine PW.exit ?_
      | refine PW.block ?_
      | refine PW.condT rfl ?_
      | refine PW.condF rfl ?_
      | (refine PW.condD rfl (fun hc => ?_) (fun hc => ?_) <;> first | (exfalso; omega) | skip)
      | (refine PW.condN rfl (fun hc => ?_) (fun hc => ?_) <;> first | (exfalso; omega) | skip)
      | refine PW.cond rfl (fun hc => ?_) (fun hc => ?_)
      | refine PW.regQ [1] ?_
      | refine PW.sdrawG kt_50 sc_50 [1] hmix (by kernel_rfl) (fun K hK => ?_)
      | refine PW.drawG sc_50 [1] hmix (by kernel_rfl) (fun K hK => ?_)
      | refine PW.label ?_
      | omega
      | (split <;> first | contradiction | skip)
  | true =>
    cases q2 : inV n 0 d with
    | false =>
      have hr : shareOk n d = false := by simp [shareOk, q1, q2]
      rw [hr]
      refine spec_of (nt := 15) (rs := [.tmp 2]) Try.func50 rfl rfl rfl rfl (by simp) (by simp [np]) (fun B => ?_)
      repeat' first
        | exact True.intro
        | refine runQ_step (fun K hK => ?_)
        | refine runQ_end ?_
        | refine PW.sregN kt_50 [1] (fun K hK => ?_)
        | simp only [push_cast, ↓reduceIte, Nat.reduceAdd, Nat.reduceSub, Nat.reduceMul, Nat.reduceEqDiff, Nat.reduceLT, Nat.reduceLeDiff, Int.reduceToNat, reduceCtorEq, Int.reduceEq, Int.reduceLT, Int.reduceLE, Int.reduceAdd, Int.reduceSub, Int.reduceMul, Int.reduceNeg, MV.top, kt_50, ti1, ti3, ti4, ti30, ti32, eqt30, q1, q2, whenV]
        | refine And.intro ?_ ?_
        | (refine hK _ ?_; clear hK K)
        | (refine hK _ ?_ ?_ <;> clear hK K)
        | apply_assumption (exfalso := false) (symm := false) only [*]
        | refine runQ_gC rfl (fun K hK => ?_)
        | refine runQ_gS rfl rfl ?_
        | refine runQ_gU rfl rfl ?_
        | (refine runQ_gT rfl (fun hc K hK => ?_) (fun hc => ?_) <;> first | (exfalso; omega) | skip)
        | (refine runQ_gF rfl (fun hc K hK => ?_) (fun hc => ?_) <;> first | (exfalso; omega) | skip)
        | refine runQ_guard rfl (fun hc K hK => ?_) (fun hc => ?_)
        | refine calP_lent rfl rfl (rin_spec _ _ _) rfl ?_
        | refine PW.seq (fun K hK => ?_)
        | refine PW.ret ?_
        | refine PW.skip ?_
        | refine PW.exit ?_
        | refine PW.block ?_
        | refine PW.condT rfl ?_
        | refine PW.condF rfl ?_
        | (refine PW.condD rfl (fun hc => ?_) (fun hc => ?_) <;> first | (exfalso; omega) | skip)
        | (refine PW.condN rfl (fun hc => ?_) (fun hc => ?_) <;> first | (exfalso; omega) | skip)
        | refine PW.cond rfl (fun hc => ?_) (fun hc => ?_)
        | refine PW.regQ [1] ?_
        | refine PW.sdrawG kt_50 sc_50 [1] hmix (by kernel_rfl) (fun K hK => ?_)
        | refine PW.drawG sc_50 [1] hmix (by kernel_rfl) (fun K hK => ?_)
        | refine PW.label ?_
        | omega
        | (split <;> first | contradiction | skip)
    | true =>
      have hr : shareOk n d = true := by simp [shareOk, q1, q2]
      rw [hr]
      refine spec_of (nt := 15) (rs := [.tmp 2]) Try.func50 rfl rfl rfl rfl (by simp) (by simp [np]) (fun B => ?_)
      repeat' first
        | exact True.intro
        | refine runQ_step (fun K hK => ?_)
        | refine runQ_end ?_
        | refine PW.sregN kt_50 [1] (fun K hK => ?_)
        | simp only [push_cast, ↓reduceIte, Nat.reduceAdd, Nat.reduceSub, Nat.reduceMul, Nat.reduceEqDiff, Nat.reduceLT, Nat.reduceLeDiff, Int.reduceToNat, reduceCtorEq, Int.reduceEq, Int.reduceLT, Int.reduceLE, Int.reduceAdd, Int.reduceSub, Int.reduceMul, Int.reduceNeg, MV.top, kt_50, ti1, ti3, ti4, ti30, ti32, eqt30, q1, q2, whenV]
        | refine And.intro ?_ ?_
        | (refine hK _ ?_; clear hK K)
        | (refine hK _ ?_ ?_ <;> clear hK K)
        | apply_assumption (exfalso := false) (symm := false) only [*]
        | refine runQ_gC rfl (fun K hK => ?_)
        | refine runQ_gS rfl rfl ?_
        | refine runQ_gU rfl rfl ?_
        | (refine runQ_gT rfl (fun hc K hK => ?_) (fun hc => ?_) <;> first | (exfalso; omega) | skip)
        | (refine runQ_gF rfl (fun hc K hK => ?_) (fun hc => ?_) <;> first | (exfalso; omega) | skip)
        | refine runQ_guard rfl (fun hc K hK => ?_) (fun hc => ?_)
        | refine calP_lent rfl rfl (rin_spec _ _ _) rfl ?_
        | refine PW.seq (fun K hK => ?_)
        | refine PW.ret ?_
        | refine PW.skip ?_
        | refine PW.exit ?_
        | refine PW.block ?_
        | refine PW.condT rfl ?_
        | refine PW.condF rfl ?_
        | (refine PW.condD rfl (fun hc => ?_) (fun hc => ?_) <;> first | (exfalso; omega) | skip)
        | (refine PW.condN rfl (fun hc => ?_) (fun hc => ?_) <;> first | (exfalso; omega) | skip)
        | refine PW.cond rfl (fun hc => ?_) (fun hc => ?_)
        | refine PW.regQ [1] ?_
        | refine PW.sdrawG kt_50 sc_50 [1] hmix (by kernel_rfl) (fun K hK => ?_)
        | refine PW.drawG sc_50 [1] hmix (by kernel_rfl) (fun K hK => ?_)
        | refine PW.label ?_
        | omega
        | (split <;> first | contradiction | skip)
end Go.Pv

