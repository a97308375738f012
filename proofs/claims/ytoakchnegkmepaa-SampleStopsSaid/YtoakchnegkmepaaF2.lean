/- Contracts of the streams functions. -/
import Derived.Test.YtoakchnegkmepaaF1
set_option linter.unusedSimpArgs false
set_option linter.unusedVariables false
set_option maxRecDepth 100000
set_option maxHeartbeats 4000000
namespace Go.Pv
open Go Go.Proofs
attribute [local irreducible] PW Dr DrS DrN Spec SpecB runQ opP calP gdP Still
def nextV (ls : List Int) (at_ n : Int) : Int :=
  if (ls.length : Int) = 0 then belowV (IntKind.i64.wrap ((at_ + 1) * 7919)) n
  else belowV (IntKind.i64.wrap (belowV ((ls[(at_.tmod ls.length).toNat]?).getD 0) 1073741824 + IntKind.i64.wrap (IntKind.i64.wrap (at_.tdiv ls.length) * IntKind.i64.wrap (7919 + at_.tmod ls.length)))) n

def strm (ls : List Int) (at_ : Int) : Option (List Ct) := some [.sh (.list (ls.map fun x => [.int .i64 x])), .sh (.int .i64 at_)]

theorem wrap_id {x : Int} (h0 : -9223372036854775808 ≤ x) (h1 : x ≤ 9223372036854775807) : IntKind.i64.wrap x = x := by
  simp [IntKind.wrap, IntKind.signed, IntKind.bits, IntKind.max, IntKind.min]
  all_goals omega

/-- Plans for open orders. -/
def sc_59 : List (Nat × Sc) := [(4, .take 0 (.take 1 (.take 2 (.take 3 (.take 4 (.take 5 (.take 6 (.take 7 (.take 8 (.take 9 (.take 10 (.one 11 [] (.fin))))))))))))), (5, .take 0 (.take 1 (.take 2 (.take 3 (.take 4 (.take 5 (.take 6 (.take 7 (.take 8 (.take 9 (.take 10 (.one 11 [] (.fin)))))))))))))]
/-- What is read later. -/
def kt_59 : List (Nat × List Nat) := [(0, [0, 1]), (1, [0, 1]), (2, [0, 1, 19]), (3, [4]), (4, [0, 1, 5]), (5, [0, 1, 5, 6]), (6, [4])]
theorem Next_spec {B : List (Option (List Ct))} {k : Nat} {ls : List Int} {at_ : Int} (n : Int) (hB : B[k]? = some (strm ls at_)) (h0 : 0 ≤ at_) (h1 : at_ < 4611686018427387904) :
    SpecB Try.prog 59 [.ptr k 0, .int .i64 n] B [(none, .int .i64 (nextV ls at_ n))] (B.set k (strm ls (at_ + 1))) := by
  have hk : k < B.length := (List.getElem?_eq_some_iff.1 hB).1
  have hw1 : IntKind.i64.wrap (at_ + 1) = at_ + 1 := wrap_id (by omega) (by omega)
  have hw2 : IntKind.i64.wrap (at_ + 1 - 1) = at_ := by rw [show at_ + 1 - 1 = at_ from by omega]; exact wrap_id (by omega) (by omega)
  unfold strm at hB
  refine specB_of (nt := 64) (rs := [.tmp 4]) Try.func59 rfl rfl rfl rfl (by simp) (by simp) ?_
  by_cases hl : (ls.length : Int) = 0
  · skip
    repeat' first
      | exact True.intro
      | refine runQ_step (fun K hK => ?_)
      | refine runQ_end ?_
      | refine PW.sregN kt_59 [] (fun K hK => ?_)
      | simp only [push_cast, ↓reduceIte, Nat.reduceAdd, Nat.reduceSub, Nat.reduceMul, Nat.reduceEqDiff, Nat.reduceLT, Nat.reduceLeDiff, Int.reduceToNat, reduceCtorEq, Int.reduceEq, Int.reduceLT, Int.reduceLE, Int.reduceAdd, Int.reduceSub, Int.reduceMul, Int.reduceNeg, MV.top, kt_59, ti1, ti3, ti4, ti22, ti23, ti25, hB, hk, List.length_map, hw1, hw2]
      | refine And.intro ?_ ?_
      | (refine hK _ ?_; clear hK K)
      | (refine hK _ ?_ ?_ <;> clear hK K)
      | apply_assumption (exfalso := false) (symm := false) only [*]
      | refine DrG.take rfl rfl rfl (by kernel_rfl) rfl (fun K hK => ?_)
      | refine DrG.one rfl rfl (by kernel_rfl) (by kernel_rfl) (by kernel_rfl) (fun K hK => ?_)
      | refine DrG.fin rfl (by kernel_rfl) (by kernel_rfl) ?_
      | refine Still.ofR rfl rfl rfl (by kernel_rfl) rfl (fun K hK => ?_)
      | refine calP_ret rfl rfl rfl (Below_spec _ _) ?_
      | refine PW.seq (fun K hK => ?_)
      | refine PW.ret ?_
      | refine PW.skip ?_
      | refine PW.exit ?_
      | refine PW.block ?_
      | refine PW.condT rfl ?_
      | refine PW.condF rfl ?_
      | (refine PW.condD rfl (fun hc => ?_) (fun hc => ?_) <;> first | (exfalso; omega) | skip)
      | (refine PW.condN rfl (fun hc => ?_) (fun hc => ?_) <;> first | (exfalso; omega) | skip)
      | refine PW.cond rfl (fun hc => ?_) (fun hc => ?_)
      | refine PW.regQ [] ?_
      | refine PW.sdrawG kt_59 sc_59 [] hmix (by kernel_rfl) (fun K hK => ?_)
      | refine PW.drawG sc_59 [] hmix (by kernel_rfl) (fun K hK => ?_)
      | refine PW.label ?_
      | omega
      | (split <;> first | contradiction | skip)
    · simp only [nextV, hl, if_true]
    · rfl
  · have hm : 0 ≤ at_.tmod ls.length := Int.tmod_nonneg _ h0
    have hpos : (0 : Int) < ls.length := by omega
    have hm2 : at_.tmod ls.length < ls.length := Int.tmod_lt_of_pos _ hpos
    have hi : (at_.tmod ls.length).toNat < ls.length := by omega
    have hget : (ls.map fun x => [MV.int .i64 x])[(at_.tmod ls.length).toNat]? = some [.int .i64 ((ls[(at_.tmod ls.length).toNat]?).getD 0)] := by
      rw [List.getElem?_map, List.getElem?_eq_getElem hi]; rfl
    repeat' first
      | exact True.intro
      | refine runQ_step (fun K hK => ?_)
      | refine runQ_end ?_
      | refine PW.sregN kt_59 [] (fun K hK => ?_)
      | simp only [push_cast, ↓reduceIte, Nat.reduceAdd, Nat.reduceSub, Nat.reduceMul, Nat.reduceEqDiff, Nat.reduceLT, Nat.reduceLeDiff, Int.reduceToNat, reduceCtorEq, Int.reduceEq, Int.reduceLT, Int.reduceLE, Int.reduceAdd, Int.reduceSub, Int.reduceMul, Int.reduceNeg, MV.top, kt_59, ti1, ti3, ti4, ti22, ti23, ti25, hB, hk, List.length_map, hw1, hw2, hm, hget]
      | refine And.intro ?_ ?_
      | (refine hK _ ?_; clear hK K)
      | (refine hK _ ?_ ?_ <;> clear hK K)
      | apply_assumption (exfalso := false) (symm := false) only [*]
      | refine DrG.take rfl rfl rfl (by kernel_rfl) rfl (fun K hK => ?_)
      | refine DrG.one rfl rfl (by kernel_rfl) (by kernel_rfl) (by kernel_rfl) (fun K hK => ?_)
      | refine DrG.fin rfl (by kernel_rfl) (by kernel_rfl) ?_
      | refine Still.ofR rfl rfl rfl (by kernel_rfl) rfl (fun K hK => ?_)
      | refine calP_ret rfl rfl rfl (Below_spec _ _) ?_
      | refine PW.seq (fun K hK => ?_)
      | refine PW.ret ?_
      | refine PW.skip ?_
      | refine PW.exit ?_
      | refine PW.block ?_
      | refine PW.condT rfl ?_
      | refine PW.condF rfl ?_
      | (refine PW.condD rfl (fun hc => ?_) (fun hc => ?_) <;> first | (exfalso; omega) | skip)
      | (refine PW.condN rfl (fun hc => ?_) (fun hc => ?_) <;> first | (exfalso; omega) | skip)
      | refine PW.cond rfl (fun hc => ?_) (fun hc => ?_)
      | refine PW.regQ [] ?_
      | refine PW.sdrawG kt_59 sc_59 [] hmix (by kernel_rfl) (fun K hK => ?_)
      | refine PW.drawG sc_59 [] hmix (by kernel_rfl) (fun K hK => ?_)
      | refine PW.label ?_
      | omega
      | (split <;> first | contradiction | skip)
    · simp only [nextV, if_neg hl]
    · rfl
end Go.Pv

