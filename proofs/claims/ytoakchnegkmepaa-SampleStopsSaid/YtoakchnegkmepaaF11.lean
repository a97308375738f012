/- Contracts of fractions in lowest terms. -/
import Derived.Test.YtoakchnegkmepaaF7
set_option linter.unusedSimpArgs false
set_option linter.unusedVariables false
set_option maxRecDepth 100000
set_option maxHeartbeats 4000000
namespace Go.Pv
open Go Go.Proofs
attribute [local irreducible] PW Dr DrS DrN DrG DrH Spec SpecB runQ opP calP gdP Still

theorem gcd_step (a b : Int) : Int.gcd b (a.tmod b) = Int.gcd a b := by
  unfold Int.gcd
  rw [Int.natAbs_tmod, Nat.gcd_comm a.natAbs b.natAbs, Nat.gcd_rec b.natAbs a.natAbs, Nat.gcd_comm]

theorem tmod_abs {a b : Int} (hb : b ≠ 0) : (a.tmod b).natAbs < b.natAbs := by
  rw [Int.natAbs_tmod]
  exact Nat.mod_lt _ (by omega)

def gcdV (n d : Int) : Int := (Int.gcd n d : Int)
theorem gcdV_pos {n d : Int} (hd : d ≠ 0) : 0 < gcdV n d := by
  have : 0 < Int.gcd n d := Int.gcd_pos_of_ne_zero_right n hd
  unfold gcdV; omega

theorem tdiv_abs (n g : Int) : -(n.natAbs : Int) ≤ n.tdiv g ∧ n.tdiv g ≤ n.natAbs := by
  have h := Int.natAbs_tdiv n g
  have h2 := Nat.div_le_self n.natAbs g.natAbs
  rw [show n.natAbs / g.natAbs = n.natAbs.div g.natAbs from rfl, ← h] at h2
  omega

def lowV (n d : Int) : MV := fracV (n.tdiv (gcdV n d)) (d.tdiv (gcdV n d))

/-- Plans for open orders. -/
def sc_80 : List (Nat × Sc) := [(3, .take 0 (.take 1 (.take 2 (.take 3 (.one 4 [3, 2] (.one 5 [] (.fin))))))), (4, .take 0 (.take 1 (.take 2 (.take 3 (.take 4 (.take 5 (.one 6 [4, 3, 1, 0] (.one 7 [] (.fin)))))))))]
/-- What is read later. -/
def kt_80 : List (Nat × List Nat) := [(0, [0, 1, 4]), (1, [0, 1, 4, 5, 6]), (2, [0, 1, 4, 5, 6, 13]), (3, [0, 1, 4, 5, 6]), (4, [4])]
theorem fraction_spec (n d : Int) (h0 : -4611686018427387904 < n) (h1 : n < 4611686018427387904) (h2 : 0 < d) (h3 : d < 4611686018427387904) : Spec Try.prog 80 [.int .i64 n, .int .i64 d] [(none, lowV n d)] := by
  have hw : IntKind.i64.wrap (0 - n) = -n := by rw [show 0 - n = -n from by omega]; exact wrap_id (by omega) (by omega)
  have hm : 0 ≤ mm2 true n (-n) ∧ (mm2 true n (-n)).natAbs = n.natAbs := by simp only [mm2, if_true]; split <;> omega
  have hg0 : Int.gcd (mm2 true n (-n)) d = Int.gcd n d := by unfold Int.gcd; rw [hm.2]
  have hg := gcdV_pos (n := n) (show d ≠ 0 by omega)
  have w1 : IntKind.i64.wrap (n.tdiv (gcdV n d)) = n.tdiv (gcdV n d) := by have := tdiv_abs n (gcdV n d); exact wrap_id (by omega) (by omega)
  have w2 : IntKind.i64.wrap (d.tdiv (gcdV n d)) = d.tdiv (gcdV n d) := by have := tdiv_abs d (gcdV n d); exact wrap_id (by omega) (by omega)
  have hz : (gcdV n d = 0) = False := eq_false (by omega)
  unfold lowV fracV
  refine spec_of0 (nt := 25) (rs := [.cell 4 30]) Try.func80 rfl rfl rfl rfl (by simp) (by simp [np, npL]) (by simp [np]) ?_
  repeat' first
    | exact True.intro
    | refine runQ_step (fun K hK => ?_)
    | refine runQ_end ?_
    | refine PW.sregN kt_80 [] (fun K hK => ?_)
    | simp only [push_cast, ↓reduceIte, Nat.reduceAdd, Nat.reduceSub, Nat.reduceMul, Nat.reduceEqDiff, Nat.reduceLT, Nat.reduceLeDiff, Int.reduceToNat, reduceCtorEq, Int.reduceEq, Int.reduceLT, Int.reduceLE, Int.reduceAdd, Int.reduceSub, Int.reduceMul, Int.reduceNeg, MV.top, kt_80, ti1, ti3, ti4, ti30, eqt30, hw]
    | refine And.intro ?_ ?_
    | (refine hK _ ?_; clear hK K)
    | (refine hK _ ?_ ?_ <;> clear hK K)
    | apply_assumption (exfalso := false) (symm := false) only [*]
    | refine DrG.take rfl rfl rfl (by kernel_rfl) rfl (fun K hK => ?_)
    | refine DrG.one rfl rfl (by kernel_rfl) (by kernel_rfl) (by kernel_rfl) (fun K hK => ?_)
    | refine DrG.fin rfl (by kernel_rfl) (by kernel_rfl) ?_
    | refine Still.ofR rfl rfl rfl (by kernel_rfl) rfl (fun K hK => ?_)
    | refine PW.seq (fun K hK => ?_)
    | refine PW.ret ?_
    | refine PW.skip ?_
    | refine PW.exit ?_
    | refine PW.block ?_
    | refine PW.condT rfl ?_
    | refine PW.condF rfl ?_
    | (refine PW.condD rfl (fun hc => ?_) (fun hc => ?_) <;> first | (exfalso; omega) | skip)
    | (refine PW.condN rfl (fun hc => ?_) (fun hc => ?_) <;> first | (exfalso; omega) | skip)
    | refine PW.cond rfl (fun hc => ?_) (fun hc => ?_)
    | refine PW.regQ [] ?_
    | refine PW.sdrawG kt_80 sc_80 [] hmix (by kernel_rfl) (fun K hK => ?_)
    | refine PW.drawG sc_80 [] hmix (by kernel_rfl) (fun K hK => ?_)
    | refine PW.label ?_
    | omega
    | (split <;> first | contradiction | skip)
  refine PW.loopN [0, 1, 4, 5, 6] (fun q : Int × Int => ⟨[(0, .sh (.int .i64 n)), (1, .sh (.int .i64 d)), (4, .sh (.ptr 0 0)), (5, .sh (.int .i64 q.1)), (6, .sh (.int .i64 q.2))], [some [.sh (.int .i64 0), .sh (.int .i64 0)]]⟩) (fun q => 0 ≤ q.1 ∧ 0 ≤ q.2 ∧ Int.gcd q.1 q.2 = Int.gcd n d) (fun q => q.2.natAbs) (mm2 true n (-n), d) ?_ ⟨hm.1, by omega, hg0⟩ (fun q hq => ?_)
  · simp only [push_cast, ↓reduceIte, Nat.reduceAdd, Nat.reduceSub, Nat.reduceMul, Nat.reduceEqDiff, Nat.reduceLT, Nat.reduceLeDiff, Int.reduceToNat, reduceCtorEq, Int.reduceEq, Int.reduceLT, Int.reduceLE, Int.reduceAdd, Int.reduceSub, Int.reduceMul, Int.reduceNeg, MV.top, kt_80, ti1, ti3, ti4, ti30, hw]
  obtain ⟨a, b⟩ := q
  obtain ⟨g1, g2, g3⟩ := hq
  simp only at g1 g2 g3
  clear hw hm hg0
  by_cases hb : 0 < b
  · have hbz : (b = 0) = False := eq_false (by omega)
    repeat' first
      | exact True.intro
      | refine runQ_step (fun K hK => ?_)
      | refine runQ_end ?_
      | refine PW.sregN kt_80 [] (fun K hK => ?_)
      | simp only [push_cast, ↓reduceIte, Nat.reduceAdd, Nat.reduceSub, Nat.reduceMul, Nat.reduceEqDiff, Nat.reduceLT, Nat.reduceLeDiff, Int.reduceToNat, reduceCtorEq, Int.reduceEq, Int.reduceLT, Int.reduceLE, Int.reduceAdd, Int.reduceSub, Int.reduceMul, Int.reduceNeg, MV.top, kt_80, ti1, ti3, ti4, ti30, eqt30, hb, hbz]
      | refine And.intro ?_ ?_
      | (refine hK _ ?_; clear hK K)
      | (refine hK _ ?_ ?_ <;> clear hK K)
      | apply_assumption (exfalso := false) (symm := false) only [*]
      | refine DrG.take rfl rfl rfl (by kernel_rfl) rfl (fun K hK => ?_)
      | refine DrG.one rfl rfl (by kernel_rfl) (by kernel_rfl) (by kernel_rfl) (fun K hK => ?_)
      | refine DrG.fin rfl (by kernel_rfl) (by kernel_rfl) ?_
      | refine Still.ofR rfl rfl rfl (by kernel_rfl) rfl (fun K hK => ?_)
      | refine PW.seq (fun K hK => ?_)
      | refine PW.ret ?_
      | refine PW.skip ?_
      | refine PW.exit ?_
      | refine PW.block ?_
      | refine PW.condT rfl ?_
      | refine PW.condF rfl ?_
      | (refine PW.condD rfl (fun hc => ?_) (fun hc => ?_) <;> first | (exfalso; omega) | skip)
      | (refine PW.condN rfl (fun hc => ?_) (fun hc => ?_) <;> first | (exfalso; omega) | skip)
      | refine PW.cond rfl (fun hc => ?_) (fun hc => ?_)
      | refine PW.regQ [] ?_
      | refine PW.sdrawG kt_80 sc_80 [] hmix (by kernel_rfl) (fun K hK => ?_)
      | refine PW.drawG sc_80 [] hmix (by kernel_rfl) (fun K hK => ?_)
      | refine PW.label ?_
      | omega
      | (split <;> first | contradiction | skip)
    all_goals exact ⟨(b, a.tmod b), rfl, ⟨by omega, Int.tmod_nonneg _ g1, by rw [gcd_step]; exact g3⟩, tmod_abs (by omega)⟩
  · have hb0 : b = 0 := by omega
    have ha : a = gcdV n d := by
      subst hb0
      have : a.natAbs = Int.gcd n d := by rw [← g3]; unfold Int.gcd; simp
      unfold gcdV; omega
    subst ha
    repeat' first
      | exact True.intro
      | refine runQ_step (fun K hK => ?_)
      | refine runQ_end ?_
      | refine PW.sregN kt_80 [] (fun K hK => ?_)
      | simp only [push_cast, ↓reduceIte, Nat.reduceAdd, Nat.reduceSub, Nat.reduceMul, Nat.reduceEqDiff, Nat.reduceLT, Nat.reduceLeDiff, Int.reduceToNat, reduceCtorEq, Int.reduceEq, Int.reduceLT, Int.reduceLE, Int.reduceAdd, Int.reduceSub, Int.reduceMul, Int.reduceNeg, MV.top, kt_80, ti1, ti3, ti4, ti30, eqt30, hb, hz, w1, w2]
      | refine And.intro ?_ ?_
      | (refine hK _ ?_; clear hK K)
      | (refine hK _ ?_ ?_ <;> clear hK K)
      | apply_assumption (exfalso := false) (symm := false) only [*]
      | refine DrG.take rfl rfl rfl (by kernel_rfl) rfl (fun K hK => ?_)
      | refine DrG.one rfl rfl (by kernel_rfl) (by kernel_rfl) (by kernel_rfl) (fun K hK => ?_)
      | refine DrG.fin rfl (by kernel_rfl) (by kernel_rfl) ?_
      | refine Still.ofR rfl rfl rfl (by kernel_rfl) rfl (fun K hK => ?_)
      | refine PW.seq (fun K hK => ?_)
      | refine PW.ret ?_
      | refine PW.skip ?_
      | refine PW.exit ?_
      | refine PW.block ?_
      | refine PW.condT rfl ?_
      | refine PW.condF rfl ?_
      | (refine PW.condD rfl (fun hc => ?_) (fun hc => ?_) <;> first | (exfalso; omega) | skip)
      | (refine PW.condN rfl (fun hc => ?_) (fun hc => ?_) <;> first | (exfalso; omega) | skip)
      | refine PW.cond rfl (fun hc => ?_) (fun hc => ?_)
      | refine PW.regQ [] ?_
      | refine PW.sdrawG kt_80 sc_80 [] hmix (by kernel_rfl) (fun K hK => ?_)
      | refine PW.drawG sc_80 [] hmix (by kernel_rfl) (fun K hK => ?_)
      | refine PW.label ?_
      | omega
      | (split <;> first | contradiction | skip)

/-- Plans for open orders. -/
def sc_40 : List (Nat × Sc) := [(3, .take 0 (.take 1 (.take 2 (.take 3 (.one 4 [3, 2] (.one 5 [] (.fin))))))), (8, .take 0 (.take 1 (.take 2 (.take 3 (.take 4 (.take 5 (.one 6 [4, 3, 1, 0] (.one 7 [] (.fin)))))))))]
/-- What is read later. -/
def kt_40 : List (Nat × List Nat) := [(0, [0, 1, 4]), (1, [0, 1, 4, 5, 6]), (2, [0, 1, 4, 5, 6, 10]), (3, [0, 1, 4, 5, 6]), (4, [0, 1, 4, 5, 16]), (5, [0, 1, 4, 5]), (6, [0, 1, 4, 5, 20]), (7, [0, 1, 4, 5]), (8, [4])]
theorem Lowest_spec (n d : Int) (h0 : -4611686018427387904 < n) (h1 : n < 4611686018427387904) (h2 : 0 < d) (h3 : d < 4611686018427387904) : Spec Try.prog 40 [.int .i64 n, .int .i64 d] [(none, lowV n d)] := by
  have hg := gcdV_pos (n := n) (show d ≠ 0 by omega)
  have hgb : gcdV n d ≤ d := by
    have := Int.gcd_le_natAbs_right n (show d ≠ 0 by omega)
    unfold gcdV; omega
  have w1 : IntKind.i64.wrap (n.tdiv (gcdV n d)) = n.tdiv (gcdV n d) := by have := tdiv_abs n (gcdV n d); exact wrap_id (by omega) (by omega)
  have w2 : IntKind.i64.wrap (d.tdiv (gcdV n d)) = d.tdiv (gcdV n d) := by have := tdiv_abs d (gcdV n d); exact wrap_id (by omega) (by omega)
  have hz : (gcdV n d = 0) = False := eq_false (by omega)
  unfold lowV fracV
  refine spec_of0 (nt := 28) (rs := [.cell 4 30]) Try.func40 rfl rfl rfl rfl (by simp) (by simp [np, npL]) (by simp [np]) ?_
  repeat' first
    | exact True.intro
    | refine runQ_step (fun K hK => ?_)
    | refine runQ_end ?_
    | refine PW.sregN kt_40 [] (fun K hK => ?_)
    | simp only [push_cast, ↓reduceIte, Nat.reduceAdd, Nat.reduceSub, Nat.reduceMul, Nat.reduceEqDiff, Nat.reduceLT, Nat.reduceLeDiff, Int.reduceToNat, reduceCtorEq, Int.reduceEq, Int.reduceLT, Int.reduceLE, Int.reduceAdd, Int.reduceSub, Int.reduceMul, Int.reduceNeg, MV.top, kt_40, ti1, ti3, ti4, ti30, eqt30]
    | refine And.intro ?_ ?_
    | (refine hK _ ?_; clear hK K)
    | (refine hK _ ?_ ?_ <;> clear hK K)
    | apply_assumption (exfalso := false) (symm := false) only [*]
    | refine DrG.take rfl rfl rfl (by kernel_rfl) rfl (fun K hK => ?_)
    | refine DrG.one rfl rfl (by kernel_rfl) (by kernel_rfl) (by kernel_rfl) (fun K hK => ?_)
    | refine DrG.fin rfl (by kernel_rfl) (by kernel_rfl) ?_
    | refine Still.ofR rfl rfl rfl (by kernel_rfl) rfl (fun K hK => ?_)
    | refine PW.seq (fun K hK => ?_)
    | refine PW.ret ?_
    | refine PW.skip ?_
    | refine PW.exit ?_
    | refine PW.block ?_
    | refine PW.condT rfl ?_
    | refine PW.condF rfl ?_
    | (refine PW.condD rfl (fun hc => ?_) (fun hc => ?_) <;> first | (exfalso; omega) | skip)
    | (refine PW.condN rfl (fun hc => ?_) (fun hc => ?_) <;> first | (exfalso; omega) | skip)
    | refine PW.cond rfl (fun hc => ?_) (fun hc => ?_)
    | refine PW.regQ [] ?_
    | refine PW.sdrawG kt_40 sc_40 [] hmix (by kernel_rfl) (fun K hK => ?_)
    | refine PW.drawG sc_40 [] hmix (by kernel_rfl) (fun K hK => ?_)
    | refine PW.label ?_
    | omega
    | (split <;> first | contradiction | skip)
  refine PW.loopN [0, 1, 4, 5, 6] (fun q : Int × Int => ⟨[(0, .sh (.int .i64 n)), (1, .sh (.int .i64 d)), (4, .sh (.ptr 0 0)), (5, .sh (.int .i64 q.1)), (6, .sh (.int .i64 q.2))], [some [.sh (.int .i64 0), .sh (.int .i64 0)]]⟩) (fun q => Int.gcd q.1 q.2 = Int.gcd n d) (fun q => q.2.natAbs) (n, d) ?_ rfl (fun q hq => ?_)
  · simp only [push_cast, ↓reduceIte, Nat.reduceAdd, Nat.reduceSub, Nat.reduceMul, Nat.reduceEqDiff, Nat.reduceLT, Nat.reduceLeDiff, Int.reduceToNat, reduceCtorEq, Int.reduceEq, Int.reduceLT, Int.reduceLE, Int.reduceAdd, Int.reduceSub, Int.reduceMul, Int.reduceNeg, MV.top, kt_40, ti1, ti3, ti4, ti30]
  obtain ⟨a, b⟩ := q
  simp only at hq
  by_cases hb : b = 0
  · subst hb
    have ha : a.natAbs = Int.gcd n d := by rw [← hq]; unfold Int.gcd; simp
    have hwn : IntKind.i64.wrap (0 - a) = -a := by rw [show 0 - a = -a from by omega]; unfold gcdV at hgb hg; exact wrap_id (by omega) (by omega)
    by_cases hneg : a < 0
    · have ha2 : -a = gcdV n d := by unfold gcdV; omega
      rw [ha2] at hwn
      repeat' first
        | exact True.intro
        | refine runQ_step (fun K hK => ?_)
        | refine runQ_end ?_
        | refine PW.sregN kt_40 [] (fun K hK => ?_)
        | simp only [push_cast, ↓reduceIte, Nat.reduceAdd, Nat.reduceSub, Nat.reduceMul, Nat.reduceEqDiff, Nat.reduceLT, Nat.reduceLeDiff, Int.reduceToNat, reduceCtorEq, Int.reduceEq, Int.reduceLT, Int.reduceLE, Int.reduceAdd, Int.reduceSub, Int.reduceMul, Int.reduceNeg, MV.top, kt_40, ti1, ti3, ti4, ti30, eqt30, hneg, ha2, hwn, hz, w1, w2]
        | refine And.intro ?_ ?_
        | (refine hK _ ?_; clear hK K)
        | (refine hK _ ?_ ?_ <;> clear hK K)
        | apply_assumption (exfalso := false) (symm := false) only [*]
        | refine DrG.take rfl rfl rfl (by kernel_rfl) rfl (fun K hK => ?_)
        | refine DrG.one rfl rfl (by kernel_rfl) (by kernel_rfl) (by kernel_rfl) (fun K hK => ?_)
        | refine DrG.fin rfl (by kernel_rfl) (by kernel_rfl) ?_
        | refine Still.ofR rfl rfl rfl (by kernel_rfl) rfl (fun K hK => ?_)
        | refine PW.seq (fun K hK => ?_)
        | refine PW.ret ?_
        | refine PW.skip ?_
        | refine PW.exit ?_
        | refine PW.block ?_
        | refine PW.condT rfl ?_
        | refine PW.condF rfl ?_
        | (refine PW.condD rfl (fun hc => ?_) (fun hc => ?_) <;> first | (exfalso; omega) | skip)
        | (refine PW.condN rfl (fun hc => ?_) (fun hc => ?_) <;> first | (exfalso; omega) | skip)
        | refine PW.cond rfl (fun hc => ?_) (fun hc => ?_)
        | refine PW.regQ [] ?_
        | refine PW.sdrawG kt_40 sc_40 [] hmix (by kernel_rfl) (fun K hK => ?_)
        | refine PW.drawG sc_40 [] hmix (by kernel_rfl) (fun K hK => ?_)
        | refine PW.label ?_
        | omega
        | (split <;> first | contradiction | skip)
    · have ha2 : a = gcdV n d := by unfold gcdV; omega
      subst ha2
      have hneg2 : ¬ gcdV n d < 0 := hneg
      repeat' first
        | exact True.intro
        | refine runQ_step (fun K hK => ?_)
        | refine runQ_end ?_
        | refine PW.sregN kt_40 [] (fun K hK => ?_)
        | simp only [push_cast, ↓reduceIte, Nat.reduceAdd, Nat.reduceSub, Nat.reduceMul, Nat.reduceEqDiff, Nat.reduceLT, Nat.reduceLeDiff, Int.reduceToNat, reduceCtorEq, Int.reduceEq, Int.reduceLT, Int.reduceLE, Int.reduceAdd, Int.reduceSub, Int.reduceMul, Int.reduceNeg, MV.top, kt_40, ti1, ti3, ti4, ti30, eqt30, hneg2, hz, w1, w2]
        | refine And.intro ?_ ?_
        | (refine hK _ ?_; clear hK K)
        | (refine hK _ ?_ ?_ <;> clear hK K)
        | apply_assumption (exfalso := false) (symm := false) only [*]
        | refine DrG.take rfl rfl rfl (by kernel_rfl) rfl (fun K hK => ?_)
        | refine DrG.one rfl rfl (by kernel_rfl) (by kernel_rfl) (by kernel_rfl) (fun K hK => ?_)
        | refine DrG.fin rfl (by kernel_rfl) (by kernel_rfl) ?_
        | refine Still.ofR rfl rfl rfl (by kernel_rfl) rfl (fun K hK => ?_)
        | refine PW.seq (fun K hK => ?_)
        | refine PW.ret ?_
        | refine PW.skip ?_
        | refine PW.exit ?_
        | refine PW.block ?_
        | refine PW.condT rfl ?_
        | refine PW.condF rfl ?_
        | (refine PW.condD rfl (fun hc => ?_) (fun hc => ?_) <;> first | (exfalso; omega) | skip)
        | (refine PW.condN rfl (fun hc => ?_) (fun hc => ?_) <;> first | (exfalso; omega) | skip)
        | refine PW.cond rfl (fun hc => ?_) (fun hc => ?_)
        | refine PW.regQ [] ?_
        | refine PW.sdrawG kt_40 sc_40 [] hmix (by kernel_rfl) (fun K hK => ?_)
        | refine PW.drawG sc_40 [] hmix (by kernel_rfl) (fun K hK => ?_)
        | refine PW.label ?_
        | omega
        | (split <;> first | contradiction | skip)
  · skip
    repeat' first
      | exact True.intro
      | refine runQ_step (fun K hK => ?_)
      | refine runQ_end ?_
      | refine PW.sregN kt_40 [] (fun K hK => ?_)
      | simp only [push_cast, ↓reduceIte, Nat.reduceAdd, Nat.reduceSub, Nat.reduceMul, Nat.reduceEqDiff, Nat.reduceLT, Nat.reduceLeDiff, Int.reduceToNat, reduceCtorEq, Int.reduceEq, Int.reduceLT, Int.reduceLE, Int.reduceAdd, Int.reduceSub, Int.reduceMul, Int.reduceNeg, MV.top, kt_40, ti1, ti3, ti4, ti30, eqt30, hb]
      | refine And.intro ?_ ?_
      | (refine hK _ ?_; clear hK K)
      | (refine hK _ ?_ ?_ <;> clear hK K)
      | apply_assumption (exfalso := false) (symm := false) only [*]
      | refine DrG.take rfl rfl rfl (by kernel_rfl) rfl (fun K hK => ?_)
      | refine DrG.one rfl rfl (by kernel_rfl) (by kernel_rfl) (by kernel_rfl) (fun K hK => ?_)
      | refine DrG.fin rfl (by kernel_rfl) (by kernel_rfl) ?_
      | refine Still.ofR rfl rfl rfl (by kernel_rfl) rfl (fun K hK => ?_)
      | refine PW.seq (fun K hK => ?_)
      | refine PW.ret ?_
      | refine PW.skip ?_
      | refine PW.exit ?_
      | refine PW.block ?_
      | refine PW.condT rfl ?_
      | refine PW.condF rfl ?_
      | (refine PW.condD rfl (fun hc => ?_) (fun hc => ?_) <;> first | (exfalso; omega) | skip)
      | (refine PW.condN rfl (fun hc => ?_) (fun hc => ?_) <;> first | (exfalso; omega) | skip)
      | refine PW.cond rfl (fun hc => ?_) (fun hc => ?_)
      | refine PW.regQ [] ?_
      | refine PW.sdrawG kt_40 sc_40 [] hmix (by kernel_rfl) (fun K hK => ?_)
      | refine PW.drawG sc_40 [] hmix (by kernel_rfl) (fun K hK => ?_)
      | refine PW.label ?_
      | omega
      | (split <;> first | contradiction | skip)
    all_goals exact ⟨(b, a.tmod b), rfl, by rw [gcd_step]; exact hq, tmod_abs hb⟩

def wholeV (n d : Int) : MV := if d = 0 then fracV 1 1 else lowV n d

/-- What is read later. -/
def kt_86 : List (Nat × List Nat) := [(0, [0, 1, 4]), (1, [0, 1, 4, 6]), (2, [4]), (3, [4])]
theorem whole_spec (n d : Int) (h0 : -4611686018427387904 < n) (h1 : n < 4611686018427387904) (h2 : 0 ≤ d) (h3 : d < 4611686018427387904) : Spec Try.prog 86 [.int .i64 n, .int .i64 d] [(none, wholeV n d)] := by
  by_cases hd : d = 0
  · subst hd
    have : wholeV n 0 = fracV 1 1 := rfl
    rw [this]
    unfold fracV
    refine spec_of0 (nt := 11) (rs := [.cell 4 30]) Try.func86 rfl rfl rfl rfl (by simp) (by simp [np, npL]) (by simp [np]) ?_
    repeat' first
      | exact True.intro
      | refine runQ_step (fun K hK => ?_)
      | refine runQ_end ?_
      | refine PW.sregN kt_86 [] (fun K hK => ?_)
      | simp only [push_cast, ↓reduceIte, Nat.reduceAdd, Nat.reduceSub, Nat.reduceMul, Nat.reduceEqDiff, Nat.reduceLT, Nat.reduceLeDiff, Int.reduceToNat, reduceCtorEq, Int.reduceEq, Int.reduceLT, Int.reduceLE, Int.reduceAdd, Int.reduceSub, Int.reduceMul, Int.reduceNeg, MV.top, kt_86, ti1, ti3, ti4, ti30, eqt30]
      | refine And.intro ?_ ?_
      | (refine hK _ ?_; clear hK K)
      | (refine hK _ ?_ ?_ <;> clear hK K)
      | apply_assumption (exfalso := false) (symm := false) only [*]
      | refine PW.seq (fun K hK => ?_)
      | refine PW.ret ?_
      | refine PW.skip ?_
      | refine PW.exit ?_
      | refine PW.block ?_
      | refine PW.condT rfl ?_
      | refine PW.condF rfl ?_
      | (refine PW.condD rfl (fun hc => ?_) (fun hc => ?_) <;> first | (exfalso; omega) | skip)
      | (refine PW.condN rfl (fun hc => ?_) (fun hc => ?_) <;> first | (exfalso; omega) | skip)
      | refine PW.cond rfl (fun hc => ?_) (fun hc => ?_)
      | refine PW.regQ [] ?_
      | refine PW.sdrawG kt_86 sc_86 [] hmix (by kernel_rfl) (fun K hK => ?_)
      | refine PW.drawG sc_86 [] hmix (by kernel_rfl) (fun K hK => ?_)
      | refine PW.label ?_
      | omega
      | (split <;> first | contradiction | skip)
  · have : wholeV n d = lowV n d := by simp [wholeV, hd]
    rw [this]
    have e1 := fraction_spec n d h0 h1 (by omega) h3
    unfold lowV fracV at *
    refine spec_of0 (nt := 11) (rs := [.cell 4 30]) Try.func86 rfl rfl rfl rfl (by simp) (by simp [np, npL]) (by simp [np]) ?_
    repeat' first
      | exact True.intro
      | refine runQ_step (fun K hK => ?_)
      | refine runQ_end ?_
      | refine PW.sregN kt_86 [] (fun K hK => ?_)
      | simp only [push_cast, ↓reduceIte, Nat.reduceAdd, Nat.reduceSub, Nat.reduceMul, Nat.reduceEqDiff, Nat.reduceLT, Nat.reduceLeDiff, Int.reduceToNat, reduceCtorEq, Int.reduceEq, Int.reduceLT, Int.reduceLE, Int.reduceAdd, Int.reduceSub, Int.reduceMul, Int.reduceNeg, MV.top, kt_86, ti1, ti3, ti4, ti30, eqt30, hd]
      | refine And.intro ?_ ?_
      | (refine hK _ ?_; clear hK K)
      | (refine hK _ ?_ ?_ <;> clear hK K)
      | apply_assumption (exfalso := false) (symm := false) only [*]
      | refine calP_lent rfl rfl e1 rfl ?_
      | refine PW.seq (fun K hK => ?_)
      | refine PW.ret ?_
      | refine PW.skip ?_
      | refine PW.exit ?_
      | refine PW.block ?_
      | refine PW.condT rfl ?_
      | refine PW.condF rfl ?_
      | (refine PW.condD rfl (fun hc => ?_) (fun hc => ?_) <;> first | (exfalso; omega) | skip)
      | (refine PW.condN rfl (fun hc => ?_) (fun hc => ?_) <;> first | (exfalso; omega) | skip)
      | refine PW.cond rfl (fun hc => ?_) (fun hc => ?_)
      | refine PW.regQ [] ?_
      | refine PW.sdrawG kt_86 sc_86 [] hmix (by kernel_rfl) (fun K hK => ?_)
      | refine PW.drawG sc_86 [] hmix (by kernel_rfl) (fun K hK => ?_)
      | refine PW.label ?_
      | omega
      | (split <;> first | contradiction | skip)

/-- What is read later. -/
def kt_87 : List (Nat × List Nat) := [(0, [0, 1, 4]), (1, [0, 1, 4, 6]), (2, [4]), (3, [4])]
theorem orOne_spec (n d : Int) (h0 : -4611686018427387904 < n) (h1 : n < 4611686018427387904) (h2 : 0 ≤ d) (h3 : d < 4611686018427387904) : Spec Try.prog 87 [.int .i64 n, .int .i64 d] [(none, wholeV n d)] := by
  by_cases hd : d = 0
  · subst hd
    have : wholeV n 0 = fracV 1 1 := rfl
    rw [this]
    unfold fracV
    refine spec_of0 (nt := 11) (rs := [.cell 4 30]) Try.func87 rfl rfl rfl rfl (by simp) (by simp [np, npL]) (by simp [np]) ?_
    repeat' first
      | exact True.intro
      | refine runQ_step (fun K hK => ?_)
      | refine runQ_end ?_
      | refine PW.sregN kt_87 [] (fun K hK => ?_)
      | simp only [push_cast, ↓reduceIte, Nat.reduceAdd, Nat.reduceSub, Nat.reduceMul, Nat.reduceEqDiff, Nat.reduceLT, Nat.reduceLeDiff, Int.reduceToNat, reduceCtorEq, Int.reduceEq, Int.reduceLT, Int.reduceLE, Int.reduceAdd, Int.reduceSub, Int.reduceMul, Int.reduceNeg, MV.top, kt_87, ti1, ti3, ti4, ti30, eqt30]
      | refine And.intro ?_ ?_
      | (refine hK _ ?_; clear hK K)
      | (refine hK _ ?_ ?_ <;> clear hK K)
      | apply_assumption (exfalso := false) (symm := false) only [*]
      | refine PW.seq (fun K hK => ?_)
      | refine PW.ret ?_
      | refine PW.skip ?_
      | refine PW.exit ?_
      | refine PW.block ?_
      | refine PW.condT rfl ?_
      | refine PW.condF rfl ?_
      | (refine PW.condD rfl (fun hc => ?_) (fun hc => ?_) <;> first | (exfalso; omega) | skip)
      | (refine PW.condN rfl (fun hc => ?_) (fun hc => ?_) <;> first | (exfalso; omega) | skip)
      | refine PW.cond rfl (fun hc => ?_) (fun hc => ?_)
      | refine PW.regQ [] ?_
      | refine PW.sdrawG kt_87 sc_87 [] hmix (by kernel_rfl) (fun K hK => ?_)
      | refine PW.drawG sc_87 [] hmix (by kernel_rfl) (fun K hK => ?_)
      | refine PW.label ?_
      | omega
      | (split <;> first | contradiction | skip)
  · have : wholeV n d = lowV n d := by simp [wholeV, hd]
    rw [this]
    have e1 := Lowest_spec n d h0 h1 (by omega) h3
    unfold lowV fracV at *
    refine spec_of0 (nt := 11) (rs := [.cell 4 30]) Try.func87 rfl rfl rfl rfl (by simp) (by simp [np, npL]) (by simp [np]) ?_
    repeat' first
      | exact True.intro
      | refine runQ_step (fun K hK => ?_)
      | refine runQ_end ?_
      | refine PW.sregN kt_87 [] (fun K hK => ?_)
      | simp only [push_cast, ↓reduceIte, Nat.reduceAdd, Nat.reduceSub, Nat.reduceMul, Nat.reduceEqDiff, Nat.reduceLT, Nat.reduceLeDiff, Int.reduceToNat, reduceCtorEq, Int.reduceEq, Int.reduceLT, Int.reduceLE, Int.reduceAdd, Int.reduceSub, Int.reduceMul, Int.reduceNeg, MV.top, kt_87, ti1, ti3, ti4, ti30, eqt30, hd]
      | refine And.intro ?_ ?_
      | (refine hK _ ?_; clear hK K)
      | (refine hK _ ?_ ?_ <;> clear hK K)
      | apply_assumption (exfalso := false) (symm := false) only [*]
      | refine calP_lent rfl rfl e1 rfl ?_
      | refine PW.seq (fun K hK => ?_)
      | refine PW.ret ?_
      | refine PW.skip ?_
      | refine PW.exit ?_
      | refine PW.block ?_
      | refine PW.condT rfl ?_
      | refine PW.condF rfl ?_
      | (refine PW.condD rfl (fun hc => ?_) (fun hc => ?_) <;> first | (exfalso; omega) | skip)
      | (refine PW.condN rfl (fun hc => ?_) (fun hc => ?_) <;> first | (exfalso; omega) | skip)
      | refine PW.cond rfl (fun hc => ?_) (fun hc => ?_)
      | refine PW.regQ [] ?_
      | refine PW.sdrawG kt_87 sc_87 [] hmix (by kernel_rfl) (fun K hK => ?_)
      | refine PW.drawG sc_87 [] hmix (by kernel_rfl) (fun K hK => ?_)
      | refine PW.label ?_
      | omega
      | (split <;> first | contradiction | skip)
end Go.Pv

