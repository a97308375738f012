/- Contracts of when to stop. -/
import Derived.Test.YtoakchnegkmepaaF27
set_option linter.unusedSimpArgs false
set_option linter.unusedVariables false
set_option maxRecDepth 100000
set_option maxHeartbeats 1500000
namespace Go.Pv
open Go Go.Proofs
attribute [local irreducible] PW Dr DrS DrN DrG DrH Spec SpecB runQ opP calP gdP Still

theorem lenT_bd {bss : List (List Bool)} (hb : ∀ x ∈ bss, x.length ≤ 2000) : ∀ i, i ≤ bss.length → lenT bss i ≤ 2000 * i
  | 0, _ => by simp [lenT]
  | i + 1, h => by
    have ih := lenT_bd hb i (by omega)
    rw [lenT_succ (show i < bss.length by omega)]
    have := hb bss[i] (List.getElem_mem _)
    omega

def ruleM (r n d : Int) : MV := .agg [.int .i64 r, .int .i64 n, .int .i64 d]

/-- What is read later. -/
def kt_60 : List (Nat × List Nat) := [(0, [0, 3]), (1, [0, 3, 16]), (2, [4, 5]), (3, [0, 3, 26]), (4, [4, 5]), (5, [0, 3, 6, 7]), (6, [0, 3, 6, 7, 27, 28, 29]), (7, [0, 3, 6, 7, 27, 28, 29, 30]), (8, [0, 3, 6, 7, 8, 9, 27, 28, 29, 33]), (9, [0, 3, 6, 7, 8, 9, 27, 28, 29, 33]), (10, [0, 3, 6, 7, 8, 27, 28, 29]), (11, [0, 3, 6, 7, 8, 27, 28, 29, 45]), (12, [0, 3, 6, 7, 8, 27, 28, 29]), (13, [0, 3, 6, 7, 8, 27, 28, 29]), (14, [0, 3, 6, 7, 8, 27, 28, 29, 83]), (15, [4, 5]), (16, [0, 3, 6, 7, 27, 28, 29]), (17, [4, 5])]
theorem Stops_win (bss : List (List Bool)) (r : Nat) (n d : Int) (hl : bss.length ≤ 2000) (hb : ∀ x ∈ bss, x.length ≤ 2000) (hr : 1 ≤ r ∧ r ≤ 2000) (h : shareOk n d = true) :
    Spec Try.prog 60 [rowsM bss, ruleM r n d] [(none, .int .i64 (stopAt (stopB bss r n d) bss.length 1)), (none, .int .i64 (if stopAt (stopB bss r n d) bss.length 1 = 0 then 8 else 0))] := by
  have hsh : (1 ≤ d ∧ d ≤ 1000000) ∧ (0 ≤ n ∧ n ≤ d) := by simpa [shareOk, inV] using h
  have e1 := ContainsFuncB_spec (f := 96) (cap := []) bigB bss (by omega) (fun x _ => Stops1_spec x)
  have hany : bss.any bigB = false := by
    rw [List.any_eq_false]; intro x hx
    have := hb x hx
    simp [bigB]; omega
  rw [hany] at e1
  have e2 := In_spec (r : Int) 1 2000
  have hin : inV (r : Int) 1 2000 = true := by unfold inV; exact decide_eq_true (by omega)
  rw [hin] at e2
  have e3 := shareError_spec n d
  rw [h] at e3
  have ea := fun bs : List Bool => fun hb : bs.length < 4611686018427387904 => all_spec bs hb
  have hgt : ¬ (2000 : Int) < bss.length := by omega
  generalize hres : stopAt (stopB bss r n d) bss.length 1 = res
  generalize hev : (if res = 0 then (8 : Int) else 0) = ev
  have hw00 : winB bss r 0 = [] := by simp [winB]
  unfold rowsM ruleM fracV bools at *
  refine spec_of (nt := 87) (rs := [.tmp 4, .tmp 5]) Try.func60 rfl rfl rfl rfl (by simp) (by simp [np]) (fun B => ?_)
  repeat' first
    | exact True.intro
    | refine runQ_step (fun K hK => ?_)
    | refine runQ_end ?_
    | refine PW.sregN kt_60 [3] (fun K hK => ?_)
    | simp only [push_cast, ↓reduceIte, Nat.reduceAdd, Nat.reduceSub, Nat.reduceMul, Nat.reduceEqDiff, Nat.reduceLT, Nat.reduceLeDiff, Int.reduceToNat, reduceCtorEq, Int.reduceEq, Int.reduceLT, Int.reduceLE, Int.reduceAdd, Int.reduceSub, Int.reduceMul, Int.reduceNeg, MV.top, kt_60, ti1, ti3, ti4, ti30, ti32, ti69, ti80, ti83, ti86, eqt30, eqt83, whenV, hgt, List.length_map]
    | refine And.intro ?_ ?_
    | (refine hK _ ?_; clear hK K)
    | (refine hK _ ?_ ?_ <;> clear hK K)
    | apply_assumption (exfalso := false) (symm := false) only [*]
    | refine runQ_gC rfl (fun K hK => ?_)
    | refine runQ_gS rfl rfl ?_
    | refine runQ_gU rfl rfl ?_
    | (refine runQ_gT rfl (fun hc K hK => ?_) (fun hc => ?_) <;> first | (exfalso; omega) | skip)
    | (refine runQ_gF rfl (fun hc K hK => ?_) (fun hc => ?_) <;> first | (exfalso; omega) | skip)
    | refine runQ_guard rfl (fun hc K hK => ?_) (fun hc => ?_)
    | refine calP_ret rfl rfl rfl e1 ?_
    | refine calP_lent rfl rfl e2 rfl ?_
    | refine calP_lent rfl rfl e3 rfl ?_
    | refine PW.seq (fun K hK => ?_)
    | refine PW.ret ?_
    | refine PW.skip ?_
    | refine PW.exit ?_
    | refine PW.block ?_
    | refine PW.condT rfl ?_
    | refine PW.condF rfl ?_
    | (refine PW.condD rfl (fun hc => ?_) (fun hc => ?_) <;> first | (exfalso; omega) | skip)
    | (refine PW.condN rfl (fun hc => ?_) (fun hc => ?_) <;> first | (exfalso; omega) | skip)
    | refine PW.cond rfl (fun hc => ?_) (fun hc => ?_)
    | refine PW.regQ [3] ?_
    | refine PW.sdrawG kt_60 sc_60 [3] hmix (by kernel_rfl) (fun K hK => ?_)
    | refine PW.drawG sc_60 [3] hmix (by kernel_rfl) (fun K hK => ?_)
    | refine PW.label ?_
    | omega
    | (split <;> first | contradiction | skip)
  clear e1 e2 e3
  refine PW.loopN [0, 3, 6, 7, 27, 28, 29] (fun i : Nat => ⟨[(0, .sh (.list (bss.map fun bs => [.list (bs.map boolc)]))), (3, .sh (.cptr [.int .i64 r, .int .i64 n, .int .i64 d] 0)), (6, .sh (.int .i64 (cnt (winB bss r i)))), (7, .sh (.int .i64 (winB bss r i).length)), (27, .sh (.list (bss.map fun bs => [.list (bs.map boolc)]))), (28, .sh (.int .i64 bss.length)), (29, .sh (.int .i64 (i : Int)))], B⟩) (fun i => i ≤ bss.length ∧ stopAt (stopB bss r n d) (bss.length - i) (i + 1) = res) (fun i => bss.length - i) 0 ?_ ⟨Nat.zero_le _, hres⟩ (fun i hi => ?_)
  · rw [hw00]
    simp only [push_cast, ↓reduceIte, Nat.reduceAdd, Nat.reduceSub, Nat.reduceMul, Nat.reduceEqDiff, Nat.reduceLT, Nat.reduceLeDiff, Int.reduceToNat, reduceCtorEq, Int.reduceEq, Int.reduceLT, Int.reduceLE, Int.reduceAdd, Int.reduceSub, Int.reduceMul, Int.reduceNeg, MV.top, kt_60, ti1, ti3, ti4, ti30, ti32, ti69, ti80, ti83, ti86, List.length_map]
    rfl
  obtain ⟨h1, h2⟩ := hi
  by_cases hlt : i < bss.length
  · have hlt2 : (i : Int) < bss.length := by omega
    have hge := rows_get hlt
    have hbi := hb bss[i] (List.getElem_mem _)
    have ei := ea bss[i] (by omega)
    have hwi := wrap_nat (i := i) (by omega)
    have hw0 : IntKind.i64.wrap ((i : Int) + 1) = (i : Int) + 1 := wrap_id (by omega) (by omega)
    rw [show bss.length - i = (bss.length - (i + 1)) + 1 by omega] at h2
    unfold stopAt at h2
    -- windows
    have c1 := win_cnt bss r i
    have c2 := win_cnt bss r (i + 1)
    have l1 := win_len bss r i
    have l2 := win_len bss r (i + 1)
    have cs := cntT_succ hlt
    have ls := lenT_succ hlt
    have b1 := lenT_bd hb (i + 1) (by omega)
    have cb1 := cnt_bd (winB bss r i)
    have cb2 := cnt_bd (winB bss r (i + 1))
    have cb3 := cnt_bd bss[i]
    have hsb : stopB bss r n d (i + 1) = (decide (r ≤ i + 1) && decide (cnt (winB bss r (i + 1)) * d ≤ n * (winB bss r (i + 1)).length)) := rfl
    have hnb : lenT bss (i + 1) ≤ 4000000 := by omega
    generalize stopB bss r n d (i + 1) = sb at *
    generalize lenT bss (i + 1) = LT1 at *
    have hm1 := mul_bd cb2.1 (show cnt (winB bss r (i + 1)) ≤ 4000000 by omega) (show 0 ≤ d by omega) hsh.1.2
    have hm2 := mul_bd hsh.2.1 (show n ≤ 1000000 by omega) (show (0 : Int) ≤ (winB bss r (i + 1)).length by omega) (show ((winB bss r (i + 1)).length : Int) ≤ 4000000 by omega)
    have hw6 : IntKind.i64.wrap (cnt (winB bss r (i + 1)) * d) = cnt (winB bss r (i + 1)) * d := wrap_id (by omega) (by omega)
    have hw7 : IntKind.i64.wrap (n * ((winB bss r (i + 1)).length : Int)) = n * ((winB bss r (i + 1)).length : Int) := wrap_id (by omega) (by omega)
    have hbb : ((bss[i].length : Nat) : Int) ≤ 2000 := by omega
    have ht0 : sb = false ∨ (r ≤ i + 1 ∧ cnt (winB bss r (i + 1)) * d ≤ n * (winB bss r (i + 1)).length ∧ sb = true) := by
      rw [hsb]
      by_cases q1 : r ≤ i + 1 <;> by_cases q2 : cnt (winB bss r (i + 1)) * d ≤ n * ((winB bss r (i + 1)).length : Int) <;> simp [q1, q2]
    by_cases hri : r ≤ i
    · have hlt3 : i - r < bss.length := by omega
      have hge2 := rows_get hlt3
      have hbi2 := hb bss[i - r] (List.getElem_mem _)
      have ei2 := ea bss[i - r] (by omega)
      have cs2 := cntT_succ hlt3
      have ls2 := lenT_succ hlt3
      have b2 := lenT_bd hb (i - r) (by omega)
      have cb4 := cnt_bd bss[i - r]
      rw [show i + 1 - r = i - r + 1 by omega] at c2 l2
      rw [cs, cs2] at c2
      rw [ls2] at l2
      have hri2 : (r : Int) ≤ i := by omega
      have hri3 : (r : Int) ≤ (i : Int) + 1 := by omega
      have hwx : IntKind.i64.wrap ((i : Int) - r) = (i : Int) - r := wrap_id (by omega) (by omega)
      have htn : ((i : Int) - r).toNat = i - r := by omega
      have h0n : (0 : Int) ≤ (i : Int) - r := by omega
      have hw1 : IntKind.i64.wrap (cnt (winB bss r i) + cnt bss[i]) = cnt (winB bss r i) + cnt bss[i] := wrap_id (by omega) (by omega)
      have hw2 : IntKind.i64.wrap (cnt (winB bss r i) + cnt bss[i] - cnt bss[i - r]) = cnt (winB bss r (i + 1)) := by rw [c2, c1]; exact (wrap_id (by omega) (by omega)).trans (by omega)
      have hw3 : IntKind.i64.wrap (((winB bss r i).length : Int) + bss[i].length) = ((winB bss r i).length : Int) + bss[i].length := wrap_id (by omega) (by omega)
      have hw4 : IntKind.i64.wrap (((winB bss r i).length : Int) + bss[i].length - bss[i - r].length) = ((winB bss r (i + 1)).length : Int) := by rw [l2, l1]; exact (wrap_id (by omega) (by omega)).trans (by omega)
      generalize bss[i] = bi at *
      generalize bss[i - r] = bj at *
      generalize hA2 : cnt (winB bss r (i + 1)) = A2 at *
      generalize hL2 : (winB bss r (i + 1)).length = L2 at *
      clear c1 c2 l1 l2 cs ls cs2 ls2 b1 b2 cb1 cb2 cb3 cb4 hnb hm1 hm2 hbi hbi2 hbb ea hb
      unfold bools at hge hge2
      by_cases ht : A2 * d ≤ n * (L2 : Int)
      · have hsb2 : sb = true := by rw [hsb]; simp [ht]; omega
        rw [hsb2, if_pos rfl] at h2
        rw [if_neg (by omega)] at hev
        rw [← h2, ← hev]
        clear hsb ht0 h2
        repeat' first
          | exact True.intro
          | refine runQ_step (fun K hK => ?_)
          | refine runQ_end ?_
          | refine PW.sregN kt_60 [3] (fun K hK => ?_)
          | simp only [push_cast, ↓reduceIte, Nat.reduceAdd, Nat.reduceSub, Nat.reduceMul, Nat.reduceEqDiff, Nat.reduceLT, Nat.reduceLeDiff, Int.reduceToNat, reduceCtorEq, Int.reduceEq, Int.reduceLT, Int.reduceLE, Int.reduceAdd, Int.reduceSub, Int.reduceMul, Int.reduceNeg, MV.top, kt_60, ti1, ti3, ti4, ti30, ti32, ti69, ti80, ti83, ti86, eqt30, eqt83, hlt2, hge, hge2, hri2, hri3, hwx, htn, h0n, hw0, hw1, hw2, hw3, hw4, hw6, hw7, ht, Int.toNat_natCast, List.length_map]
          | refine And.intro ?_ ?_
          | (refine hK _ ?_; clear hK K)
          | (refine hK _ ?_ ?_ <;> clear hK K)
          | apply_assumption (exfalso := false) (symm := false) only [*]
          | refine runQ_gC rfl (fun K hK => ?_)
          | refine runQ_gS rfl rfl ?_
          | refine runQ_gU rfl rfl ?_
          | (refine runQ_gT rfl (fun hc K hK => ?_) (fun hc => ?_) <;> first | (exfalso; omega) | skip)
          | (refine runQ_gF rfl (fun hc K hK => ?_) (fun hc => ?_) <;> first | (exfalso; omega) | skip)
          | refine runQ_guard rfl (fun hc K hK => ?_) (fun hc => ?_)
          | refine calP_lent rfl rfl ei rfl ?_
          | refine calP_lent rfl rfl ei2 rfl ?_
          | refine PW.seq (fun K hK => ?_)
          | refine PW.ret ?_
          | refine PW.skip ?_
          | refine PW.exit ?_
          | refine PW.block ?_
          | refine PW.condT rfl ?_
          | refine PW.condF rfl ?_
          | (refine PW.condD rfl (fun hc => ?_) (fun hc => ?_) <;> first | (exfalso; omega) | skip)
          | (refine PW.condN rfl (fun hc => ?_) (fun hc => ?_) <;> first | (exfalso; omega) | skip)
          | refine PW.cond rfl (fun hc => ?_) (fun hc => ?_)
          | refine PW.regQ [3] ?_
          | refine PW.sdrawG kt_60 sc_60 [3] hmix (by kernel_rfl) (fun K hK => ?_)
          | refine PW.drawG sc_60 [3] hmix (by kernel_rfl) (fun K hK => ?_)
          | refine PW.label ?_
          | omega
          | (split <;> first | contradiction | skip)
        all_goals rfl
      · have hsb2 : sb = false := by rw [hsb]; simp [ht]
        rw [hsb2, if_neg (by simp)] at h2
        clear hsb ht0
        repeat' first
          | exact True.intro
          | refine runQ_step (fun K hK => ?_)
          | refine runQ_end ?_
          | refine PW.sregN kt_60 [3] (fun K hK => ?_)
          | simp only [push_cast, ↓reduceIte, Nat.reduceAdd, Nat.reduceSub, Nat.reduceMul, Nat.reduceEqDiff, Nat.reduceLT, Nat.reduceLeDiff, Int.reduceToNat, reduceCtorEq, Int.reduceEq, Int.reduceLT, Int.reduceLE, Int.reduceAdd, Int.reduceSub, Int.reduceMul, Int.reduceNeg, MV.top, kt_60, ti1, ti3, ti4, ti30, ti32, ti69, ti80, ti83, ti86, eqt30, eqt83, hlt2, hge, hge2, hri2, hri3, hwx, htn, h0n, hw0, hw1, hw2, hw3, hw4, hw6, hw7, ht, Int.toNat_natCast, List.length_map]
          | refine And.intro ?_ ?_
          | (refine hK _ ?_; clear hK K)
          | (refine hK _ ?_ ?_ <;> clear hK K)
          | apply_assumption (exfalso := false) (symm := false) only [*]
          | refine runQ_gC rfl (fun K hK => ?_)
          | refine runQ_gS rfl rfl ?_
          | refine runQ_gU rfl rfl ?_
          | (refine runQ_gT rfl (fun hc K hK => ?_) (fun hc => ?_) <;> first | (exfalso; omega) | skip)
          | (refine runQ_gF rfl (fun hc K hK => ?_) (fun hc => ?_) <;> first | (exfalso; omega) | skip)
          | refine runQ_guard rfl (fun hc K hK => ?_) (fun hc => ?_)
          | refine calP_lent rfl rfl ei rfl ?_
          | refine calP_lent rfl rfl ei2 rfl ?_
          | refine PW.seq (fun K hK => ?_)
          | refine PW.ret ?_
          | refine PW.skip ?_
          | refine PW.exit ?_
          | refine PW.block ?_
          | refine PW.condT rfl ?_
          | refine PW.condF rfl ?_
          | (refine PW.condD rfl (fun hc => ?_) (fun hc => ?_) <;> first | (exfalso; omega) | skip)
          | (refine PW.condN rfl (fun hc => ?_) (fun hc => ?_) <;> first | (exfalso; omega) | skip)
          | refine PW.cond rfl (fun hc => ?_) (fun hc => ?_)
          | refine PW.regQ [3] ?_
          | refine PW.sdrawG kt_60 sc_60 [3] hmix (by kernel_rfl) (fun K hK => ?_)
          | refine PW.drawG sc_60 [3] hmix (by kernel_rfl) (fun K hK => ?_)
          | refine PW.label ?_
          | omega
          | (split <;> first | contradiction | skip)
        all_goals exact ⟨i + 1, by rw [hA2, hL2]; rfl, ⟨by omega, h2⟩, by omega⟩
    · rw [show i + 1 - r = 0 by omega, cs] at c2
      rw [show i + 1 - r = 0 by omega] at l2
      rw [show i - r = 0 by omega] at c1 l1
      have hri2 : ¬ (r : Int) ≤ i := by omega
      have hw1 : IntKind.i64.wrap (cnt (winB bss r i) + cnt bss[i]) = cnt (winB bss r (i + 1)) := by rw [c2, c1]; exact (wrap_id (by omega) (by omega)).trans (by omega)
      have hw3 : IntKind.i64.wrap (((winB bss r i).length : Int) + bss[i].length) = ((winB bss r (i + 1)).length : Int) := by rw [l2, l1]; exact (wrap_id (by omega) (by omega)).trans (by omega)
      generalize bss[i] = bi at *
      generalize hA2 : cnt (winB bss r (i + 1)) = A2 at *
      generalize hL2 : (winB bss r (i + 1)).length = L2 at *
      clear c1 c2 l1 l2 cs ls b1 cb1 cb2 cb3 hnb hm1 hm2 hbi hbb ea hb
      unfold bools at hge
      by_cases hr1 : r ≤ i + 1
      · have hri3 : (r : Int) ≤ (i : Int) + 1 := by omega
        by_cases ht : A2 * d ≤ n * (L2 : Int)
        · have hsb2 : sb = true := by rw [hsb]; simp [ht]; omega
          rw [hsb2, if_pos rfl] at h2
          rw [if_neg (by omega)] at hev
          rw [← h2, ← hev]
          clear hsb ht0 h2
          repeat' first
            | exact True.intro
            | refine runQ_step (fun K hK => ?_)
            | refine runQ_end ?_
            | refine PW.sregN kt_60 [3] (fun K hK => ?_)
            | simp only [push_cast, ↓reduceIte, Nat.reduceAdd, Nat.reduceSub, Nat.reduceMul, Nat.reduceEqDiff, Nat.reduceLT, Nat.reduceLeDiff, Int.reduceToNat, reduceCtorEq, Int.reduceEq, Int.reduceLT, Int.reduceLE, Int.reduceAdd, Int.reduceSub, Int.reduceMul, Int.reduceNeg, MV.top, kt_60, ti1, ti3, ti4, ti30, ti32, ti69, ti80, ti83, ti86, eqt30, eqt83, hlt2, hge, hri2, hri3, hw0, hw1, hw3, hw6, hw7, ht, Int.toNat_natCast, List.length_map]
            | refine And.intro ?_ ?_
            | (refine hK _ ?_; clear hK K)
            | (refine hK _ ?_ ?_ <;> clear hK K)
            | apply_assumption (exfalso := false) (symm := false) only [*]
            | refine runQ_gC rfl (fun K hK => ?_)
            | refine runQ_gS rfl rfl ?_
            | refine runQ_gU rfl rfl ?_
            | (refine runQ_gT rfl (fun hc K hK => ?_) (fun hc => ?_) <;> first | (exfalso; omega) | skip)
            | (refine runQ_gF rfl (fun hc K hK => ?_) (fun hc => ?_) <;> first | (exfalso; omega) | skip)
            | refine runQ_guard rfl (fun hc K hK => ?_) (fun hc => ?_)
            | refine calP_lent rfl rfl ei rfl ?_
            | refine PW.seq (fun K hK => ?_)
            | refine PW.ret ?_
            | refine PW.skip ?_
            | refine PW.exit ?_
            | refine PW.block ?_
            | refine PW.condT rfl ?_
            | refine PW.condF rfl ?_
            | (refine PW.condD rfl (fun hc => ?_) (fun hc => ?_) <;> first | (exfalso; omega) | skip)
            | (refine PW.condN rfl (fun hc => ?_) (fun hc => ?_) <;> first | (exfalso; omega) | skip)
            | refine PW.cond rfl (fun hc => ?_) (fun hc => ?_)
            | refine PW.regQ [3] ?_
            | refine PW.sdrawG kt_60 sc_60 [3] hmix (by kernel_rfl) (fun K hK => ?_)
            | refine PW.drawG sc_60 [3] hmix (by kernel_rfl) (fun K hK => ?_)
            | refine PW.label ?_
            | omega
            | (split <;> first | contradiction | skip)
          all_goals rfl
        · have hsb2 : sb = false := by rw [hsb]; simp [ht]
          rw [hsb2, if_neg (by simp)] at h2
          clear hsb ht0
          repeat' first
            | exact True.intro
            | refine runQ_step (fun K hK => ?_)
            | refine runQ_end ?_
            | refine PW.sregN kt_60 [3] (fun K hK => ?_)
            | simp only [push_cast, ↓reduceIte, Nat.reduceAdd, Nat.reduceSub, Nat.reduceMul, Nat.reduceEqDiff, Nat.reduceLT, Nat.reduceLeDiff, Int.reduceToNat, reduceCtorEq, Int.reduceEq, Int.reduceLT, Int.reduceLE, Int.reduceAdd, Int.reduceSub, Int.reduceMul, Int.reduceNeg, MV.top, kt_60, ti1, ti3, ti4, ti30, ti32, ti69, ti80, ti83, ti86, eqt30, eqt83, hlt2, hge, hri2, hri3, hw0, hw1, hw3, hw6, hw7, ht, Int.toNat_natCast, List.length_map]
            | refine And.intro ?_ ?_
            | (refine hK _ ?_; clear hK K)
            | (refine hK _ ?_ ?_ <;> clear hK K)
            | apply_assumption (exfalso := false) (symm := false) only [*]
            | refine runQ_gC rfl (fun K hK => ?_)
            | refine runQ_gS rfl rfl ?_
            | refine runQ_gU rfl rfl ?_
            | (refine runQ_gT rfl (fun hc K hK => ?_) (fun hc => ?_) <;> first | (exfalso; omega) | skip)
            | (refine runQ_gF rfl (fun hc K hK => ?_) (fun hc => ?_) <;> first | (exfalso; omega) | skip)
            | refine runQ_guard rfl (fun hc K hK => ?_) (fun hc => ?_)
            | refine calP_lent rfl rfl ei rfl ?_
            | refine PW.seq (fun K hK => ?_)
            | refine PW.ret ?_
            | refine PW.skip ?_
            | refine PW.exit ?_
            | refine PW.block ?_
            | refine PW.condT rfl ?_
            | refine PW.condF rfl ?_
            | (refine PW.condD rfl (fun hc => ?_) (fun hc => ?_) <;> first | (exfalso; omega) | skip)
            | (refine PW.condN rfl (fun hc => ?_) (fun hc => ?_) <;> first | (exfalso; omega) | skip)
            | refine PW.cond rfl (fun hc => ?_) (fun hc => ?_)
            | refine PW.regQ [3] ?_
            | refine PW.sdrawG kt_60 sc_60 [3] hmix (by kernel_rfl) (fun K hK => ?_)
            | refine PW.drawG sc_60 [3] hmix (by kernel_rfl) (fun K hK => ?_)
            | refine PW.label ?_
            | omega
            | (split <;> first | contradiction | skip)
          all_goals exact ⟨i + 1, by rw [hA2, hL2]; rfl, ⟨by omega, h2⟩, by omega⟩
      · have hri3 : ¬ (r : Int) ≤ (i : Int) + 1 := by omega
        have hsb2 : sb = false := by rw [hsb]; simp [hr1]
        rw [hsb2, if_neg (by simp)] at h2
        clear hsb ht0
        repeat' first
          | exact True.intro
          | refine runQ_step (fun K hK => ?_)
          | refine runQ_end ?_
          | refine PW.sregN kt_60 [3] (fun K hK => ?_)
          | simp only [push_cast, ↓reduceIte, Nat.reduceAdd, Nat.reduceSub, Nat.reduceMul, Nat.reduceEqDiff, Nat.reduceLT, Nat.reduceLeDiff, Int.reduceToNat, reduceCtorEq, Int.reduceEq, Int.reduceLT, Int.reduceLE, Int.reduceAdd, Int.reduceSub, Int.reduceMul, Int.reduceNeg, MV.top, kt_60, ti1, ti3, ti4, ti30, ti32, ti69, ti80, ti83, ti86, eqt30, eqt83, hlt2, hge, hri2, hri3, hw0, hw1, hw3, hw6, hw7, Int.toNat_natCast, List.length_map]
          | refine And.intro ?_ ?_
          | (refine hK _ ?_; clear hK K)
          | (refine hK _ ?_ ?_ <;> clear hK K)
          | apply_assumption (exfalso := false) (symm := false) only [*]
          | refine runQ_gC rfl (fun K hK => ?_)
          | refine runQ_gS rfl rfl ?_
          | refine runQ_gU rfl rfl ?_
          | (refine runQ_gT rfl (fun hc K hK => ?_) (fun hc => ?_) <;> first | (exfalso; omega) | skip)
          | (refine runQ_gF rfl (fun hc K hK => ?_) (fun hc => ?_) <;> first | (exfalso; omega) | skip)
          | refine runQ_guard rfl (fun hc K hK => ?_) (fun hc => ?_)
          | refine calP_lent rfl rfl ei rfl ?_
          | refine PW.seq (fun K hK => ?_)
          | refine PW.ret ?_
          | refine PW.skip ?_
          | refine PW.exit ?_
          | refine PW.block ?_
          | refine PW.condT rfl ?_
          | refine PW.condF rfl ?_
          | (refine PW.condD rfl (fun hc => ?_) (fun hc => ?_) <;> first | (exfalso; omega) | skip)
          | (refine PW.condN rfl (fun hc => ?_) (fun hc => ?_) <;> first | (exfalso; omega) | skip)
          | refine PW.cond rfl (fun hc => ?_) (fun hc => ?_)
          | refine PW.regQ [3] ?_
          | refine PW.sdrawG kt_60 sc_60 [3] hmix (by kernel_rfl) (fun K hK => ?_)
          | refine PW.drawG sc_60 [3] hmix (by kernel_rfl) (fun K hK => ?_)
          | refine PW.label ?_
          | omega
          | (split <;> first | contradiction | skip)
        all_goals exact ⟨i + 1, by rw [hA2, hL2]; rfl, ⟨by omega, h2⟩, by omega⟩
  · have hlt2 : ¬ (i : Int) < bss.length := by omega
    rw [show bss.length - i = 0 by omega] at h2
    have : res = 0 := h2.symm
    rw [if_pos this] at hev
    rw [← hev, this]
    repeat' first
      | exact True.intro
      | refine runQ_step (fun K hK => ?_)
      | refine runQ_end ?_
      | refine PW.sregN kt_60 [3] (fun K hK => ?_)
      | simp only [push_cast, ↓reduceIte, Nat.reduceAdd, Nat.reduceSub, Nat.reduceMul, Nat.reduceEqDiff, Nat.reduceLT, Nat.reduceLeDiff, Int.reduceToNat, reduceCtorEq, Int.reduceEq, Int.reduceLT, Int.reduceLE, Int.reduceAdd, Int.reduceSub, Int.reduceMul, Int.reduceNeg, MV.top, kt_60, ti1, ti3, ti4, ti30, ti32, ti69, ti80, ti83, ti86, eqt30, eqt83, hlt2]
      | refine And.intro ?_ ?_
      | (refine hK _ ?_; clear hK K)
      | (refine hK _ ?_ ?_ <;> clear hK K)
      | apply_assumption (exfalso := false) (symm := false) only [*]
      | refine runQ_gC rfl (fun K hK => ?_)
      | refine runQ_gS rfl rfl ?_
      | refine runQ_gU rfl rfl ?_
      | (refine runQ_gT rfl (fun hc K hK => ?_) (fun hc => ?_) <;> first | (exfalso; omega) | skip)
      | (refine runQ_gF rfl (fun hc K hK => ?_) (fun hc => ?_) <;> first | (exfalso; omega) | skip)
      | refine runQ_guard rfl (fun hc K hK => ?_) (fun hc => ?_)
      | refine PW.seq (fun K hK => ?_)
      | refine PW.ret ?_
      | refine PW.skip ?_
      | refine PW.exit ?_
      | refine PW.block ?_
      | refine PW.condT rfl ?_
      | refine PW.condF rfl ?_
      | (refine PW.condD rfl (fun hc => ?_) (fun hc => ?_) <;> first | (exfalso; omega) | skip)
      | (refine PW.condN rfl (fun hc => ?_) (fun hc => ?_) <;> first | (exfalso; omega) | skip)
      | refine PW.cond rfl (fun hc => ?_) (fun hc => ?_)
      | refine PW.regQ [3] ?_
      | refine PW.sdrawG kt_60 sc_60 [3] hmix (by kernel_rfl) (fun K hK => ?_)
      | refine PW.drawG sc_60 [3] hmix (by kernel_rfl) (fun K hK => ?_)
      | refine PW.label ?_
      | omega
      | (split <;> first | contradiction | skip)

theorem Stops_big (bss : List (List Bool)) (run n d : Int) (hl : bss.length ≤ 2000) (hany : bss.any bigB = true) :
    Spec Try.prog 60 [rowsM bss, ruleM run n d] [(none, .int .i64 0), (none, .int .i64 2)] := by
  have e1 := ContainsFuncB_spec (f := 96) (cap := []) bigB bss (by omega) (fun x _ => Stops1_spec x)
  rw [hany] at e1
  have hgt : ¬ (2000 : Int) < bss.length := by omega
  unfold rowsM ruleM bools at *
  refine spec_of (nt := 87) (rs := [.tmp 4, .tmp 5]) Try.func60 rfl rfl rfl rfl (by simp) (by simp [np]) (fun B => ?_)
  repeat' first
    | exact True.intro
    | refine runQ_step (fun K hK => ?_)
    | refine runQ_end ?_
    | refine PW.sregN kt_60 [3] (fun K hK => ?_)
    | simp only [push_cast, ↓reduceIte, Nat.reduceAdd, Nat.reduceSub, Nat.reduceMul, Nat.reduceEqDiff, Nat.reduceLT, Nat.reduceLeDiff, Int.reduceToNat, reduceCtorEq, Int.reduceEq, Int.reduceLT, Int.reduceLE, Int.reduceAdd, Int.reduceSub, Int.reduceMul, Int.reduceNeg, MV.top, kt_60, ti1, ti3, ti4, ti30, ti32, ti69, ti80, ti83, ti86, eqt30, eqt83, hgt, List.length_map]
    | refine And.intro ?_ ?_
    | (refine hK _ ?_; clear hK K)
    | (refine hK _ ?_ ?_ <;> clear hK K)
    | apply_assumption (exfalso := false) (symm := false) only [*]
    | refine runQ_gC rfl (fun K hK => ?_)
    | refine runQ_gS rfl rfl ?_
    | refine runQ_gU rfl rfl ?_
    | (refine runQ_gT rfl (fun hc K hK => ?_) (fun hc => ?_) <;> first | (exfalso; omega) | skip)
    | (refine runQ_gF rfl (fun hc K hK => ?_) (fun hc => ?_) <;> first | (exfalso; omega) | skip)
    | refine runQ_guard rfl (fun hc K hK => ?_) (fun hc => ?_)
    | refine calP_ret rfl rfl rfl e1 ?_
    | refine PW.seq (fun K hK => ?_)
    | refine PW.ret ?_
    | refine PW.skip ?_
    | refine PW.exit ?_
    | refine PW.block ?_
    | refine PW.condT rfl ?_
    | refine PW.condF rfl ?_
    | (refine PW.condD rfl (fun hc => ?_) (fun hc => ?_) <;> first | (exfalso; omega) | skip)
    | (refine PW.condN rfl (fun hc => ?_) (fun hc => ?_) <;> first | (exfalso; omega) | skip)
    | refine PW.cond rfl (fun hc => ?_) (fun hc => ?_)
    | refine PW.regQ [3] ?_
    | refine PW.sdrawG kt_60 sc_60 [3] hmix (by kernel_rfl) (fun K hK => ?_)
    | refine PW.drawG sc_60 [3] hmix (by kernel_rfl) (fun K hK => ?_)
    | refine PW.label ?_
    | omega
    | (split <;> first | contradiction | skip)

theorem Stops_bad (bss : List (List Bool)) (run n d : Int) (hl : bss.length ≤ 2000) (hany : bss.any bigB = false) (hbad : inV run 1 2000 = false ∨ shareOk n d = false) :
    Spec Try.prog 60 [rowsM bss, ruleM run n d] [(none, .int .i64 0), (none, .int .i64 1)] := by
  have e1 := ContainsFuncB_spec (f := 96) (cap := []) bigB bss (by omega) (fun x _ => Stops1_spec x)
  rw [hany] at e1
  have hgt : ¬ (2000 : Int) < bss.length := by omega
  have e2 := In_spec run 1 2000
  have e3 := shareError_spec n d
  cases q1 : inV run 1 2000 with
  | false =>
    rw [q1] at e2
    unfold rowsM ruleM bools fracV at *
    refine spec_of (nt := 87) (rs := [.tmp 4, .tmp 5]) Try.func60 rfl rfl rfl rfl (by simp) (by simp [np]) (fun B => ?_)
    repeat' first
      | exact True.intro
      | refine runQ_step (fun K hK => ?_)
      | refine runQ_end ?_
      | refine PW.sregN kt_60 [3] (fun K hK => ?_)
      | simp only [push_cast, ↓reduceIte, Nat.reduceAdd, Nat.reduceSub, Nat.reduceMul, Nat.reduceEqDiff, Nat.reduceLT, Nat.reduceLeDiff, Int.reduceToNat, reduceCtorEq, Int.reduceEq, Int.reduceLT, Int.reduceLE, Int.reduceAdd, Int.reduceSub, Int.reduceMul, Int.reduceNeg, MV.top, kt_60, ti1, ti3, ti4, ti30, ti32, ti69, ti80, ti83, ti86, eqt30, eqt83, hgt, List.length_map]
      | refine And.intro ?_ ?_
      | (refine hK _ ?_; clear hK K)
      | (refine hK _ ?_ ?_ <;> clear hK K)
      | apply_assumption (exfalso := false) (symm := false) only [*]
      | refine runQ_gC rfl (fun K hK => ?_)
      | refine runQ_gS rfl rfl ?_
      | refine runQ_gU rfl rfl ?_
      | (refine runQ_gT rfl (fun hc K hK => ?_) (fun hc => ?_) <;> first | (exfalso; omega) | skip)
      | (refine runQ_gF rfl (fun hc K hK => ?_) (fun hc => ?_) <;> first | (exfalso; omega) | skip)
      | refine runQ_guard rfl (fun hc K hK => ?_) (fun hc => ?_)
      | refine calP_ret rfl rfl rfl e1 ?_
      | refine calP_lent rfl rfl e2 rfl ?_
      | refine PW.seq (fun K hK => ?_)
      | refine PW.ret ?_
      | refine PW.skip ?_
      | refine PW.exit ?_
      | refine PW.block ?_
      | refine PW.condT rfl ?_
      | refine PW.condF rfl ?_
      | (refine PW.condD rfl (fun hc => ?_) (fun hc => ?_) <;> first | (exfalso; omega) | skip)
      | (refine PW.condN rfl (fun hc => ?_) (fun hc => ?_) <;> first | (exfalso; omega) | skip)
      | refine PW.cond rfl (fun hc => ?_) (fun hc => ?_)
      | refine PW.regQ [3] ?_
      | refine PW.sdrawG kt_60 sc_60 [3] hmix (by kernel_rfl) (fun K hK => ?_)
      | refine PW.drawG sc_60 [3] hmix (by kernel_rfl) (fun K hK => ?_)
      | refine PW.label ?_
      | omega
      | (split <;> first | contradiction | skip)
  | true =>
    have q2 : shareOk n d = false := by
      rcases hbad with h | h
      · rw [q1] at h; cases h
      · exact h
    rw [q1] at e2
    rw [q2] at e3
    unfold rowsM ruleM bools fracV at *
    refine spec_of (nt := 87) (rs := [.tmp 4, .tmp 5]) Try.func60 rfl rfl rfl rfl (by simp) (by simp [np]) (fun B => ?_)
    repeat' first
      | exact True.intro
      | refine runQ_step (fun K hK => ?_)
      | refine runQ_end ?_
      | refine PW.sregN kt_60 [3] (fun K hK => ?_)
      | simp only [push_cast, ↓reduceIte, Nat.reduceAdd, Nat.reduceSub, Nat.reduceMul, Nat.reduceEqDiff, Nat.reduceLT, Nat.reduceLeDiff, Int.reduceToNat, reduceCtorEq, Int.reduceEq, Int.reduceLT, Int.reduceLE, Int.reduceAdd, Int.reduceSub, Int.reduceMul, Int.reduceNeg, MV.top, kt_60, ti1, ti3, ti4, ti30, ti32, ti69, ti80, ti83, ti86, eqt30, eqt83, whenV, hgt, List.length_map]
      | refine And.intro ?_ ?_
      | (refine hK _ ?_; clear hK K)
      | (refine hK _ ?_ ?_ <;> clear hK K)
      | apply_assumption (exfalso := false) (symm := false) only [*]
      | refine runQ_gC rfl (fun K hK => ?_)
      | refine runQ_gS rfl rfl ?_
      | refine runQ_gU rfl rfl ?_
      | (refine runQ_gT rfl (fun hc K hK => ?_) (fun hc => ?_) <;> first | (exfalso; omega) | skip)
      | (refine runQ_gF rfl (fun hc K hK => ?_) (fun hc => ?_) <;> first | (exfalso; omega) | skip)
      | refine runQ_guard rfl (fun hc K hK => ?_) (fun hc => ?_)
      | refine calP_ret rfl rfl rfl e1 ?_
      | refine calP_lent rfl rfl e2 rfl ?_
      | refine calP_lent rfl rfl e3 rfl ?_
      | refine PW.seq (fun K hK => ?_)
      | refine PW.ret ?_
      | refine PW.skip ?_
      | refine PW.exit ?_
      | refine PW.block ?_
      | refine PW.condT rfl ?_
      | refine PW.condF rfl ?_
      | (refine PW.condD rfl (fun hc => ?_) (fun hc => ?_) <;> first | (exfalso; omega) | skip)
      | (refine PW.condN rfl (fun hc => ?_) (fun hc => ?_) <;> first | (exfalso; omega) | skip)
      | refine PW.cond rfl (fun hc => ?_) (fun hc => ?_)
      | refine PW.regQ [3] ?_
      | refine PW.sdrawG kt_60 sc_60 [3] hmix (by kernel_rfl) (fun K hK => ?_)
      | refine PW.drawG sc_60 [3] hmix (by kernel_rfl) (fun K hK => ?_)
      | refine PW.label ?_
      | omega
      | (split <;> first | contradiction | skip)
end Go.Pv

