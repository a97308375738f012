/- Contracts of the streams functions. -/
import Derived.Test.YtoakchnegkmepaaTi
import Derived.Test.YtoakchnegkmepaaLD
set_option linter.unusedSimpArgs false
set_option linter.unusedVariables false
set_option maxRecDepth 100000
set_option maxHeartbeats 4000000
namespace Go.Pv
open Go Go.Proofs
attribute [local irreducible] PW Dr DrS DrN Spec SpecB runQ opP calP gdP Still

def belowV (x n : Int) : Int := if n < 1 then 0 else if x.tmod n < 0 then IntKind.i64.wrap (x.tmod n + n) else x.tmod n

/-- What is read later. -/
def kt_95 : List (Nat × List Nat) := [(0, [0, 1]), (1, [0, 1, 6]), (2, [4]), (3, [0, 1]), (4, [0, 1, 11]), (5, [0]), (6, [4])]
theorem Below_spec (x n : Int) : Spec Try.prog 95 [.int .i64 x, .int .i64 n] [(none, .int .i64 (belowV x n))] := by
  refine spec_of (nt := 16) (rs := [.tmp 4]) Try.func95 rfl rfl rfl rfl (by simp) (by simp [np]) (fun B => ?_)
  repeat' first
    | exact True.intro
    | refine runQ_step (fun K hK => ?_)
    | refine runQ_end ?_
    | refine PW.sregN kt_95 [] (fun K hK => ?_)
    | simp only [push_cast, ↓reduceIte, Nat.reduceAdd, Nat.reduceSub, Nat.reduceMul, Nat.reduceEqDiff, Nat.reduceLT, Nat.reduceLeDiff, Int.reduceToNat, reduceCtorEq, Int.reduceEq, Int.reduceLT, Int.reduceLE, Int.reduceAdd, Int.reduceSub, Int.reduceMul, Int.reduceNeg, MV.top, kt_95, ti3, ti4]
    | refine And.intro ?_ ?_
    | (refine hK _ ?_; clear hK K)
    | (refine hK _ ?_ ?_ <;> clear hK K)
    | apply_assumption (exfalso := false) (symm := false) only [*]
    | refine PW.seq (fun K hK => ?_)
    | refine PW.ret ?_
    | refine PW.skip ?_
    | refine PW.exit ?_
    | refine PW.block ?_
    | refine PW.condT rfl ?_
    | refine PW.condF rfl ?_
    | (refine PW.condD rfl (fun hc => ?_) (fun hc => ?_) <;> first | (exfalso; omega) | skip)
    | (refine PW.condN rfl (fun hc => ?_) (fun hc => ?_) <;> first | (exfalso; omega) | skip)
    | refine PW.cond rfl (fun hc => ?_) (fun hc => ?_)
    | refine PW.regQ [] ?_
    | refine PW.sdrawG kt_95 sc_95 [] hmix (by kernel_rfl) (fun K hK => ?_)
    | refine PW.drawG sc_95 [] hmix (by kernel_rfl) (fun K hK => ?_)
    | refine PW.label ?_
    | omega
    | (split <;> first | contradiction | skip)
  all_goals (unfold belowV; simp only [*, if_true, if_false])
  all_goals trivial

end Go.Pv

