/- Contracts of streams: ranges; where the numbers lie. -/
import Derived.Test.YtoakchnegkmepaaF11
set_option linter.unusedSimpArgs false
set_option linter.unusedVariables false
set_option maxRecDepth 100000
set_option maxHeartbeats 4000000
namespace Go.Pv
open Go Go.Proofs
attribute [local irreducible] PW Dr DrS DrN DrG DrH Spec SpecB runQ opP calP gdP Still

def rangeV (ls : List Int) (at_ lo hi : Int) : Int := lo + nextV ls at_ (hi - lo + 1)

theorem rangeV_bd {ls : List Int} {at_ lo hi : Int} (h : lo ≤ hi) (h0 : -1000000000 ≤ lo) (h1 : hi ≤ 1000000000) : lo ≤ rangeV ls at_ lo hi ∧ rangeV ls at_ lo hi ≤ hi := by
  have := nextV_range (ls := ls) (at_ := at_) (n := hi - lo + 1) (by omega) (by omega)
  unfold rangeV; omega

/-- What is read later. -/
def kt_42 : List (Nat × List Nat) := [(0, [0, 1, 2]), (1, [0, 1, 2, 9]), (2, [6]), (3, [6])]
theorem Range_spec {B : List (Option (List Ct))} {k : Nat} {ls : List Int} {at_ : Int} (lo hi : Int) (hB : B[k]? = some (strm ls at_)) (h0 : 0 ≤ at_) (h1 : at_ < 4611686018427387904) (hl : lo ≤ hi) (hl0 : -1000000000 ≤ lo) (hl1 : hi ≤ 1000000000) :
    SpecB Try.prog 42 [.ptr k 0, .int .i64 lo, .int .i64 hi] B [(none, .int .i64 (rangeV ls at_ lo hi))] (B.set k (strm ls (at_ + 1))) := by
  have hw1 : IntKind.i64.wrap (hi - lo) = hi - lo := wrap_id (by omega) (by omega)
  have hw2 : IntKind.i64.wrap (hi - lo + 1) = hi - lo + 1 := wrap_id (by omega) (by omega)
  have hb := rangeV_bd (ls := ls) (at_ := at_) hl hl0 hl1
  have hw3 : IntKind.i64.wrap (lo + nextV ls at_ (hi - lo + 1)) = rangeV ls at_ lo hi := by unfold rangeV at hb ⊢; exact wrap_id (by omega) (by omega)
  have hn : ¬ hi < lo := by omega
  have e1 := Next_spec (hi - lo + 1) hB h0 h1
  refine specB_of (nt := 19) (rs := [.tmp 6]) Try.func42 rfl rfl rfl rfl (by simp) (by simp) ?_
  repeat' first
    | exact True.intro
    | refine runQ_step (fun K hK => ?_)
    | refine runQ_end ?_
    | refine PW.sregN kt_42 [] (fun K hK => ?_)
    | simp only [push_cast, ↓reduceIte, Nat.reduceAdd, Nat.reduceSub, Nat.reduceMul, Nat.reduceEqDiff, Nat.reduceLT, Nat.reduceLeDiff, Int.reduceToNat, reduceCtorEq, Int.reduceEq, Int.reduceLT, Int.reduceLE, Int.reduceAdd, Int.reduceSub, Int.reduceMul, Int.reduceNeg, MV.top, kt_42, ti1, ti3, ti4, ti22, ti23, ti25, hw1, hw2, hw3, hn]
    | refine And.intro ?_ ?_
    | (refine hK _ ?_; clear hK K)
    | (refine hK _ ?_ ?_ <;> clear hK K)
    | apply_assumption (exfalso := false) (symm := false) only [*]
    | refine calP_box rfl rfl e1 ?_
    | refine PW.seq (fun K hK => ?_)
    | refine PW.ret ?_
    | refine PW.skip ?_
    | refine PW.exit ?_
    | refine PW.block ?_
    | refine PW.condT rfl ?_
    | refine PW.condF rfl ?_
    | (refine PW.condD rfl (fun hc => ?_) (fun hc => ?_) <;> first | (exfalso; omega) | skip)
    | (refine PW.condN rfl (fun hc => ?_) (fun hc => ?_) <;> first | (exfalso; omega) | skip)
    | refine PW.cond rfl (fun hc => ?_) (fun hc => ?_)
    | refine PW.regQ [] ?_
    | refine PW.sdrawG kt_42 sc_42 [] hmix (by kernel_rfl) (fun K hK => ?_)
    | refine PW.drawG sc_42 [] hmix (by kernel_rfl) (fun K hK => ?_)
    | refine PW.label ?_
    | omega
    | (split <;> first | contradiction | skip)

theorem pickV_mem {ls : List Int} {at_ : Int} {xs : List Int} (h : 1 ≤ xs.length) (h2 : (xs.length : Int) < 4611686018427387904) : pickV ls at_ xs ∈ xs := by
  have hr := nextV_range (ls := ls) (at_ := at_) (n := xs.length) (by omega) h2
  have hi : (nextV ls at_ xs.length).toNat < xs.length := by omega
  unfold pickV
  rw [List.getElem?_eq_getElem hi]
  exact List.getElem_mem hi
end Go.Pv

