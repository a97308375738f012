/- Contracts of the streams functions. -/
import Derived.Test.YtoakchnegkmepaaF2
set_option linter.unusedSimpArgs false
set_option linter.unusedVariables false
set_option maxRecDepth 100000
set_option maxHeartbeats 4000000
namespace Go.Pv
open Go Go.Proofs
attribute [local irreducible] PW Dr DrS DrN Spec SpecB runQ opP calP gdP Still
/-- What is read later. -/
def kt_31 : List (Nat × List Nat) := [(0, [0, 1]), (1, [4])]
theorem Flip_spec {B : List (Option (List Ct))} {k : Nat} {ls : List Int} {at_ : Int} (n : Int) (hB : B[k]? = some (strm ls at_)) (h0 : 0 ≤ at_) (h1 : at_ < 4611686018427387904) :
    SpecB Try.prog 31 [.ptr k 0, .int .i64 n] B [(none, .bool (decide (nextV ls at_ n = 0)))] (B.set k (strm ls (at_ + 1))) := by
  refine specB_of (nt := 9) (rs := [.tmp 4]) Try.func31 rfl rfl rfl rfl (by simp) (by simp) ?_
  repeat' first
    | exact True.intro
    | refine runQ_step (fun K hK => ?_)
    | refine runQ_end ?_
    | refine PW.sregN kt_31 [] (fun K hK => ?_)
    | simp only [push_cast, ↓reduceIte, Nat.reduceAdd, Nat.reduceSub, Nat.reduceMul, Nat.reduceEqDiff, Nat.reduceLT, Nat.reduceLeDiff, Int.reduceToNat, reduceCtorEq, Int.reduceEq, Int.reduceLT, Int.reduceLE, Int.reduceAdd, Int.reduceSub, Int.reduceMul, Int.reduceNeg, MV.top, kt_31, ti1, ti3, ti4, ti22, ti23, ti25]
    | refine And.intro ?_ ?_
    | (refine hK _ ?_; clear hK K)
    | (refine hK _ ?_ ?_ <;> clear hK K)
    | apply_assumption (exfalso := false) (symm := false) only [*]
    | refine calP_box rfl rfl (Next_spec _ hB h0 h1) ?_
    | refine PW.seq (fun K hK => ?_)
    | refine PW.ret ?_
    | refine PW.skip ?_
    | refine PW.exit ?_
    | refine PW.block ?_
    | refine PW.condT rfl ?_
    | refine PW.condF rfl ?_
    | (refine PW.condD rfl (fun hc => ?_) (fun hc => ?_) <;> first | (exfalso; omega) | skip)
    | (refine PW.condN rfl (fun hc => ?_) (fun hc => ?_) <;> first | (exfalso; omega) | skip)
    | refine PW.cond rfl (fun hc => ?_) (fun hc => ?_)
    | refine PW.regQ [] ?_
    | refine PW.sdrawG kt_31 sc_31 [] hmix (by kernel_rfl) (fun K hK => ?_)
    | refine PW.drawG sc_31 [] hmix (by kernel_rfl) (fun K hK => ?_)
    | refine PW.label ?_
    | omega
    | (split <;> first | contradiction | skip)

theorem belowV_range {x n : Int} (h : 1 ≤ n) (h2 : n < 4611686018427387904) : 0 ≤ belowV x n ∧ belowV x n < n := by
  unfold belowV
  have h3 : x.tmod n < n := Int.tmod_lt_of_pos x (by omega)
  have h4 : -n < x.tmod n := by
    have := Int.lt_tmod_of_pos x (show 0 < n by omega); omega
  rw [if_neg (by omega)]
  split
  · rw [wrap_id (by omega) (by omega)]; omega
  · omega

theorem nextV_range {ls : List Int} {at_ n : Int} (h : 1 ≤ n) (h2 : n < 4611686018427387904) : 0 ≤ nextV ls at_ n ∧ nextV ls at_ n < n := by
  unfold nextV
  split <;> exact belowV_range h h2

/-- A slice of ints. -/
def ints (xs : List Int) : MV := .list (xs.map fun x => [.int .i64 x])

def pickV (ls : List Int) (at_ : Int) (xs : List Int) : Int := (xs[(nextV ls at_ xs.length).toNat]?).getD 0

/-- What is read later. -/
def kt_25 : List (Nat × List Nat) := [(0, [0, 1]), (1, [4])]
theorem Pick_spec {B : List (Option (List Ct))} {k : Nat} {ls : List Int} {at_ : Int} (xs : List Int) (hB : B[k]? = some (strm ls at_)) (h0 : 0 ≤ at_) (h1 : at_ < 4611686018427387904) (hx : 1 ≤ xs.length) (hx2 : (xs.length : Int) < 4611686018427387904) :
    SpecB Try.prog 25 [.ptr k 0, ints xs] B [(none, .int .i64 (pickV ls at_ xs))] (B.set k (strm ls (at_ + 1))) := by
  have hr := nextV_range (ls := ls) (at_ := at_) (n := xs.length) (by omega) hx2
  have hm : 0 ≤ nextV ls at_ xs.length := hr.1
  have hi : (nextV ls at_ xs.length).toNat < xs.length := by omega
  have hget : (xs.map fun x => [MV.int .i64 x])[(nextV ls at_ xs.length).toNat]? = some [.int .i64 (pickV ls at_ xs)] := by
    rw [List.getElem?_map, pickV, List.getElem?_eq_getElem hi]; simp only [Option.map_some, Option.getD_some]
  refine specB_of (nt := 12) (rs := [.tmp 4]) Try.func25 rfl rfl rfl rfl (by simp) (by simp) ?_
  unfold ints
  repeat' first
    | exact True.intro
    | refine runQ_step (fun K hK => ?_)
    | refine runQ_end ?_
    | refine PW.sregN kt_25 [] (fun K hK => ?_)
    | simp only [push_cast, ↓reduceIte, Nat.reduceAdd, Nat.reduceSub, Nat.reduceMul, Nat.reduceEqDiff, Nat.reduceLT, Nat.reduceLeDiff, Int.reduceToNat, reduceCtorEq, Int.reduceEq, Int.reduceLT, Int.reduceLE, Int.reduceAdd, Int.reduceSub, Int.reduceMul, Int.reduceNeg, MV.top, kt_25, ti1, ti3, ti22, ti23, ti25, List.length_map, hm, hget]
    | refine And.intro ?_ ?_
    | (refine hK _ ?_; clear hK K)
    | (refine hK _ ?_ ?_ <;> clear hK K)
    | apply_assumption (exfalso := false) (symm := false) only [*]
    | refine calP_box rfl rfl (Next_spec _ hB h0 h1) ?_
    | refine PW.seq (fun K hK => ?_)
    | refine PW.ret ?_
    | refine PW.skip ?_
    | refine PW.exit ?_
    | refine PW.block ?_
    | refine PW.condT rfl ?_
    | refine PW.condF rfl ?_
    | (refine PW.condD rfl (fun hc => ?_) (fun hc => ?_) <;> first | (exfalso; omega) | skip)
    | (refine PW.condN rfl (fun hc => ?_) (fun hc => ?_) <;> first | (exfalso; omega) | skip)
    | refine PW.cond rfl (fun hc => ?_) (fun hc => ?_)
    | refine PW.regQ [] ?_
    | refine PW.sdrawG kt_25 sc_25 [] hmix (by kernel_rfl) (fun K hK => ?_)
    | refine PW.drawG sc_25 [] hmix (by kernel_rfl) (fun K hK => ?_)
    | refine PW.label ?_
    | omega
    | (split <;> first | contradiction | skip)
end Go.Pv

