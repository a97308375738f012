/- Contracts of depths, the second half, and the law SampleDepths. -/
import Derived.Test.YtoakchnegkmepaaF19
import Derived.Test.YtoakchnegkmepaaF8
set_option linter.unusedSimpArgs false
set_option linter.unusedVariables false
set_option maxRecDepth 100000
set_option maxHeartbeats 1500000
namespace Go.Pv
open Go Go.Proofs
attribute [local irreducible] PW Dr DrS DrN DrG DrH Spec SpecB runQ opP calP gdP Still

def wantB (w d : Int) : Int → Bool := fun n => decide (w ≤ n * d)
def depthV (bs : List Bool) (n d : Int) : Int := if n * cnt bs = 0 then 0 else 1 + idxV (wantB (n * cnt bs) d) (gainsL bs) 0
def depthR (bs : List Bool) (n d : Int) : Int := if idxV (wantB (n * cnt bs) d) (preL bs) 0 < 0 then 0 else idxV (wantB (n * cnt bs) d) (preL bs) 0

theorem idxV_lo (p : Int → Bool) : ∀ (l : List Int) (i : Int), idxV p l i = -1 ∨ (i ≤ idxV p l i ∧ idxV p l i < i + l.length)
  | [], i => .inl rfl
  | x :: r, i => by
    unfold idxV
    by_cases h : p x = true
    · rw [if_pos h]; right; simp; omega
    · rw [if_neg h]
      rcases idxV_lo p r (i + 1) with h1 | h1
      · exact .inl h1
      · right; simp only [List.length_cons]; omega

theorem idxV_shift (p : Int → Bool) : ∀ (l : List Int) (i : Int), 0 ≤ i → idxV p l (i + 1) = if idxV p l i = -1 then -1 else idxV p l i + 1
  | [], i, _ => rfl
  | x :: r, i, h0 => by
    unfold idxV
    by_cases h : p x = true
    · rw [if_pos h, if_pos h, if_neg (by omega)]
    · rw [if_neg h, if_neg h]; exact idxV_shift p r (i + 1) (by omega)

theorem depth_eq (bs : List Bool) (n d : Int) (h : shareOk n d = true) : depthV bs n d = depthR bs n d := by
  have hb : (1 ≤ d ∧ d ≤ 1000000) ∧ (0 ≤ n ∧ n ≤ d) := by simpa [shareOk, inV] using h
  have hc := cnt_bd bs
  have hw : 0 ≤ n * cnt bs := Int.mul_nonneg hb.2.1 hc.1
  unfold depthV depthR
  generalize n * cnt bs = w at *
  by_cases h0 : w = 0
  · subst h0
    rw [if_pos rfl]
    have : idxV (wantB 0 d) (preL bs) 0 = 0 := by
      unfold preL idxV
      rw [if_pos (by simp [wantB])]
    rw [this]; rfl
  · rw [if_neg h0]
    have : idxV (wantB w d) (preL bs) 0 = idxV (wantB w d) (gainsL bs) (0 + 1) := by
      show idxV (wantB w d) (0 :: gainsL bs) 0 = _
      rw [idxV, if_neg (by simp [wantB]; omega)]
    rw [this, idxV_shift _ _ 0 (by omega)]
    rcases idxV_lo (wantB w d) (gainsL bs) 0 with h1 | h1
    · rw [h1]; rfl
    · rw [if_neg (by omega), if_neg (by omega)]; omega

theorem gains_mem {bs : List Bool} {x : Int} (h : x ∈ gainsL bs) : 0 ≤ x ∧ x ≤ bs.length := by
  unfold gainsL at h
  obtain ⟨i, _, rfl⟩ := List.mem_map.1 h
  exact cnt_take bs (i + 1)

/-- What is read later. -/
def kt_93 : List (Nat × List Nat) := [(0, [0, 1, 2]), (1, [4])]
theorem Depth1_spec (x n d w : Int) (h0 : 0 ≤ x ∧ x ≤ 1000000) (h1 : 0 ≤ d ∧ d ≤ 1000000) : Spec Try.prog 93 [.int .i64 x, .cptr [.int .i64 n, .int .i64 d] 0, .cptr [.int .i64 w] 0] [(none, .bool (wantB w d x))] := by
  have hb := mul_bd h0.1 h0.2 h1.1 h1.2
  have hw : IntKind.i64.wrap (x * d) = x * d := wrap_id (by omega) (by omega)
  refine spec_of (nt := 11) (rs := [.tmp 4]) Try.func93 rfl rfl rfl rfl (by simp) (by simp [np]) (fun B => ?_)
  repeat' first
    | exact True.intro
    | refine runQ_step (fun K hK => ?_)
    | refine runQ_end ?_
    | refine PW.sregN kt_93 [] (fun K hK => ?_)
    | simp only [push_cast, ↓reduceIte, Nat.reduceAdd, Nat.reduceSub, Nat.reduceMul, Nat.reduceEqDiff, Nat.reduceLT, Nat.reduceLeDiff, Int.reduceToNat, reduceCtorEq, Int.reduceEq, Int.reduceLT, Int.reduceLE, Int.reduceAdd, Int.reduceSub, Int.reduceMul, Int.reduceNeg, MV.top, kt_93, ti1, ti3, ti4, ti30, eqt30, hw]
    | refine And.intro ?_ ?_
    | (refine hK _ ?_; clear hK K)
    | (refine hK _ ?_ ?_ <;> clear hK K)
    | apply_assumption (exfalso := false) (symm := false) only [*]
    | refine PW.seq (fun K hK => ?_)
    | refine PW.ret ?_
    | refine PW.skip ?_
    | refine PW.exit ?_
    | refine PW.block ?_
    | refine PW.condT rfl ?_
    | refine PW.condF rfl ?_
    | (refine PW.condD rfl (fun hc => ?_) (fun hc => ?_) <;> first | (exfalso; omega) | skip)
    | (refine PW.condN rfl (fun hc => ?_) (fun hc => ?_) <;> first | (exfalso; omega) | skip)
    | refine PW.cond rfl (fun hc => ?_) (fun hc => ?_)
    | refine PW.regQ [] ?_
    | refine PW.sdrawG kt_93 sc_93 [] hmix (by kernel_rfl) (fun K hK => ?_)
    | refine PW.drawG sc_93 [] hmix (by kernel_rfl) (fun K hK => ?_)
    | refine PW.label ?_
    | omega
    | (split <;> first | contradiction | skip)
  all_goals rfl

/-- Plans for open orders. -/
def sc_49 : List (Nat × Sc) := [(1, .take 0 (.take 2 (.one 1 [2] (.one 3 [] (.one 4 [] (.one 5 [] (.one 6 [] (.fin)))))))), (4, .take 0 (.take 1 (.take 2 (.two 3 [1, 0] (.take 4 (.one 5 [4, 1, 0] (.one 6 [] (.fin)))) (.one 5 [2, 1, 0] (.one 3 [1, 0] (.take 4 (.one 6 [] (.fin)))))))))]
/-- What is read later. -/
def kt_49 : List (Nat × List Nat) := [(0, [0, 3]), (1, [0, 3, 6]), (2, [0, 3, 6, 15]), (3, [4, 5]), (4, [0, 3, 7]), (5, [0, 3, 7, 23]), (6, [4, 5]), (7, [4, 5])]
theorem Depth_bad (bs : List Bool) (n d : Int) (hl : bs.length ≤ 2000) (h : shareOk n d = false) : Spec Try.prog 49 [bools bs, fracV n d] [(none, .int .i64 0), (none, .int .i64 1)] := by
  have e1 := readError_spec bs
  have hn : ¬ (2000 : Int) < bs.length := by omega
  rw [decide_eq_false hn] at e1
  have e2 := shareError_spec n d
  rw [h] at e2
  have e3 := First_spec [0, 1] (by simp)
  have hnp := np_bools bs
  unfold bools fracV at *
  refine spec_of0 (nt := 29) (rs := [.tmp 4, .tmp 5]) Try.func49 rfl rfl rfl rfl (by simp) (by simp [np]) (by intro x hx; simp only [List.mem_cons, List.not_mem_nil, or_false] at hx; rcases hx with rfl | rfl; exact hnp; rfl) ?_
  clear hnp
  repeat' first
    | exact True.intro
    | refine runQ_step (fun K hK => ?_)
    | refine runQ_end ?_
    | refine PW.sregN kt_49 [3] (fun K hK => ?_)
    | simp only [push_cast, ↓reduceIte, Nat.reduceAdd, Nat.reduceSub, Nat.reduceMul, Nat.reduceEqDiff, Nat.reduceLT, Nat.reduceLeDiff, Int.reduceToNat, reduceCtorEq, Int.reduceEq, Int.reduceLT, Int.reduceLE, Int.reduceAdd, Int.reduceSub, Int.reduceMul, Int.reduceNeg, MV.top, kt_49, ti1, ti2, ti3, ti4, ti22, ti30, ti32, ti52, ti69, ti93, ti97, eqt30, whenV]
    | refine And.intro ?_ ?_
    | (refine hK _ ?_; clear hK K)
    | (refine hK _ ?_ ?_ <;> clear hK K)
    | apply_assumption (exfalso := false) (symm := false) only [*]
    | refine DrG.take rfl rfl rfl (by kernel_rfl) rfl (fun K hK => ?_)
    | refine DrG.one rfl rfl (by kernel_rfl) (by kernel_rfl) (by kernel_rfl) (fun K hK => ?_)
    | refine DrG.fin rfl (by kernel_rfl) (by kernel_rfl) ?_
    | refine Still.ofR rfl rfl rfl (by kernel_rfl) rfl (fun K hK => ?_)
    | refine DrG.alt rfl (by kernel_rfl) (by kernel_rfl) ?_
    | refine DrH.two rfl rfl (by kernel_rfl) (fun K hK => ?_) ?_
    | refine DrH.one rfl rfl (by kernel_rfl) (fun K hK => ?_)
    | refine calP_lent rfl rfl e1 rfl ?_
    | refine calP_lent rfl rfl e2 rfl ?_
    | refine calP_lent rfl rfl e3 rfl ?_
    | refine PW.seq (fun K hK => ?_)
    | refine PW.ret ?_
    | refine PW.skip ?_
    | refine PW.exit ?_
    | refine PW.block ?_
    | refine PW.condT rfl ?_
    | refine PW.condF rfl ?_
    | (refine PW.condD rfl (fun hc => ?_) (fun hc => ?_) <;> first | (exfalso; omega) | skip)
    | (refine PW.condN rfl (fun hc => ?_) (fun hc => ?_) <;> first | (exfalso; omega) | skip)
    | refine PW.cond rfl (fun hc => ?_) (fun hc => ?_)
    | refine PW.regQ [3] ?_
    | refine PW.sdrawG kt_49 sc_49 [3] hmix (by kernel_rfl) (fun K hK => ?_)
    | refine PW.drawG sc_49 [3] hmix (by kernel_rfl) (fun K hK => ?_)
    | refine PW.label ?_
    | omega
    | (split <;> first | contradiction | skip)
  all_goals rfl

theorem Depth_good (bs : List Bool) (n d : Int) (hl : bs.length ≤ 2000) (h : shareOk n d = true) : Spec Try.prog 49 [bools bs, fracV n d] [(none, .int .i64 (depthV bs n d)), (none, .int .i64 0)] := by
  have hb : (1 ≤ d ∧ d ≤ 1000000) ∧ (0 ≤ n ∧ n ≤ d) := by simpa [shareOk, inV] using h
  have e1 := readError_spec bs
  have hn : ¬ (2000 : Int) < bs.length := by omega
  rw [decide_eq_false hn] at e1
  have e2 := shareError_spec n d
  rw [h] at e2
  have e3 := First_spec [0, 0] (by simp)
  have e4 := all_spec bs (by omega)
  have e5 := gains_spec bs (by omega)
  have hc := cnt_bd bs
  have hwb := mul_bd hb.2.1 (show n ≤ 1000000 by omega) hc.1 (show cnt bs ≤ 2000 by omega)
  have hnp := np_bools bs
  have hw1 : IntKind.i64.wrap (n * cnt bs) = n * cnt bs := wrap_id (by omega) (by omega)
  have hdv : depthV bs n d = if n * cnt bs = 0 then 0 else 1 + idxV (wantB (n * cnt bs) d) (gainsL bs) 0 := rfl
  generalize hw : n * cnt bs = w at *
  have e6 : Spec Try.prog 91 [ints (gainsL bs), .fn 93 [.cptr [.int .i64 n, .int .i64 d] 0, .cptr [.int .i64 w] 0]] [(none, .int .i64 (idxV (wantB w d) (gainsL bs) 0))] :=
    IndexFunc_spec (wantB w d) (gainsL bs) (by rw [gainsL_len]; omega) (fun x hx => by
      have := gains_mem hx
      exact Depth1_spec x n d w (by omega) (by omega))
  have hi := idxV_lo (wantB w d) (gainsL bs) 0
  rw [gainsL_len] at hi
  have hw2 : IntKind.i64.wrap (1 + idxV (wantB w d) (gainsL bs) 0) = 1 + idxV (wantB w d) (gainsL bs) 0 := by
    rcases hi with hi | hi
    · rw [hi]; decide
    · exact wrap_id (by omega) (by omega)
  generalize idxV (wantB w d) (gainsL bs) 0 = r at *
  have hcase : (w = 0 ∧ depthV bs n d = 0) ∨ (¬ w = 0 ∧ depthV bs n d = 1 + r) := by
    by_cases h0 : w = 0
    · left; rw [hdv, if_pos h0]; exact ⟨h0, rfl⟩
    · right; rw [hdv, if_neg h0]; exact ⟨h0, rfl⟩
  generalize depthV bs n d = dv at *
  clear hdv hi hwb hc
  unfold bools fracV ints at *
  refine spec_of0 (nt := 29) (rs := [.tmp 4, .tmp 5]) Try.func49 rfl rfl rfl rfl (by simp) (by simp [np]) (by intro x hx; simp only [List.mem_cons, List.not_mem_nil, or_false] at hx; rcases hx with rfl | rfl; exact hnp; rfl) ?_
  clear hnp
  refine PW.sregN kt_49 [3] (fun K hK => ?_)
  repeat' first
    | exact True.intro
    | refine runQ_step (fun K hK => ?_)
    | refine runQ_end ?_
    | simp only [push_cast, ↓reduceIte, Nat.reduceAdd, Nat.reduceSub, Nat.reduceMul, Nat.reduceEqDiff, Nat.reduceLT, Nat.reduceLeDiff, Int.reduceToNat, reduceCtorEq, Int.reduceEq, Int.reduceLT, Int.reduceLE, Int.reduceAdd, Int.reduceSub, Int.reduceMul, Int.reduceNeg, MV.top, kt_49, ti1, ti2, ti3, ti4, ti22, ti30, ti32, ti52, ti69, ti93, ti97, eqt30]
    | refine And.intro ?_ ?_
    | (refine hK _ ?_; clear hK K)
    | (refine hK _ ?_ ?_ <;> clear hK K)
    | apply_assumption (exfalso := false) (symm := false) only [*]
    | refine DrG.take rfl rfl rfl (by kernel_rfl) rfl (fun K hK => ?_)
    | refine DrG.one rfl rfl (by kernel_rfl) (by kernel_rfl) (by kernel_rfl) (fun K hK => ?_)
    | refine DrG.fin rfl (by kernel_rfl) (by kernel_rfl) ?_
    | refine Still.ofR rfl rfl rfl (by kernel_rfl) rfl (fun K hK => ?_)
    | refine DrG.alt rfl (by kernel_rfl) (by kernel_rfl) ?_
    | refine DrH.two rfl rfl (by kernel_rfl) (fun K hK => ?_) ?_
    | refine DrH.one rfl rfl (by kernel_rfl) (fun K hK => ?_)
    | refine PW.ret ?_
    | refine PW.skip ?_
    | refine PW.exit ?_
    | refine PW.block ?_
    | refine PW.condT rfl ?_
    | refine PW.condF rfl ?_
    | (refine PW.condD rfl (fun hc => ?_) (fun hc => ?_) <;> first | (exfalso; omega) | skip)
    | (refine PW.condN rfl (fun hc => ?_) (fun hc => ?_) <;> first | (exfalso; omega) | skip)
    | refine PW.cond rfl (fun hc => ?_) (fun hc => ?_)
    | refine PW.regQ [3] ?_
    | refine PW.drawG sc_49 [3] hmix (by kernel_rfl) (fun K hK => ?_)
    | refine PW.label ?_
    | omega
    | (split <;> first | contradiction | skip)
  refine PW.cut [0, 3] ⟨[(0, .sh (.list (bs.map boolc))), (3, .sh (.cptr [.int .i64 n, .int .i64 d] 0))], []⟩ ?_ ?_
  · have hf : firstV [0, 0] = 0 := rfl
    repeat' first
      | exact True.intro
      | refine runQ_step (fun K hK => ?_)
      | refine runQ_end ?_
      | refine PW.sregN kt_49 [3] (fun K hK => ?_)
      | simp only [push_cast, ↓reduceIte, Nat.reduceAdd, Nat.reduceSub, Nat.reduceMul, Nat.reduceEqDiff, Nat.reduceLT, Nat.reduceLeDiff, Int.reduceToNat, reduceCtorEq, Int.reduceEq, Int.reduceLT, Int.reduceLE, Int.reduceAdd, Int.reduceSub, Int.reduceMul, Int.reduceNeg, MV.top, kt_49, ti1, ti2, ti3, ti4, ti22, ti30, ti32, ti52, ti69, ti93, ti97, eqt30, whenV, hf]
      | refine And.intro ?_ ?_
      | (refine hK _ ?_; clear hK K)
      | (refine hK _ ?_ ?_ <;> clear hK K)
      | apply_assumption (exfalso := false) (symm := false) only [*]
      | refine DrG.take rfl rfl rfl (by kernel_rfl) rfl (fun K hK => ?_)
      | refine DrG.one rfl rfl (by kernel_rfl) (by kernel_rfl) (by kernel_rfl) (fun K hK => ?_)
      | refine DrG.fin rfl (by kernel_rfl) (by kernel_rfl) ?_
      | refine Still.ofR rfl rfl rfl (by kernel_rfl) rfl (fun K hK => ?_)
      | refine DrG.alt rfl (by kernel_rfl) (by kernel_rfl) ?_
      | refine DrH.two rfl rfl (by kernel_rfl) (fun K hK => ?_) ?_
      | refine DrH.one rfl rfl (by kernel_rfl) (fun K hK => ?_)
      | refine calP_lent rfl rfl e1 rfl ?_
      | refine calP_lent rfl rfl e2 rfl ?_
      | refine calP_lent rfl rfl e3 rfl ?_
      | refine PW.seq (fun K hK => ?_)
      | refine PW.ret ?_
      | refine PW.skip ?_
      | refine PW.exit ?_
      | refine PW.block ?_
      | refine PW.condT rfl ?_
      | refine PW.condF rfl ?_
      | (refine PW.condD rfl (fun hc => ?_) (fun hc => ?_) <;> first | (exfalso; omega) | skip)
      | (refine PW.condN rfl (fun hc => ?_) (fun hc => ?_) <;> first | (exfalso; omega) | skip)
      | refine PW.cond rfl (fun hc => ?_) (fun hc => ?_)
      | refine PW.regQ [3] ?_
      | refine PW.sdrawG kt_49 sc_49 [3] hmix (by kernel_rfl) (fun K hK => ?_)
      | refine PW.drawG sc_49 [3] hmix (by kernel_rfl) (fun K hK => ?_)
      | refine PW.label ?_
      | omega
      | (split <;> first | contradiction | skip)
  refine PW.sdrawG kt_49 sc_49 [3] hmix (by kernel_rfl) (fun K hK => ?_)
  repeat' first
    | exact True.intro
    | refine runQ_step (fun K hK => ?_)
    | refine runQ_end ?_
    | simp only [push_cast, ↓reduceIte, Nat.reduceAdd, Nat.reduceSub, Nat.reduceMul, Nat.reduceEqDiff, Nat.reduceLT, Nat.reduceLeDiff, Int.reduceToNat, reduceCtorEq, Int.reduceEq, Int.reduceLT, Int.reduceLE, Int.reduceAdd, Int.reduceSub, Int.reduceMul, Int.reduceNeg, MV.top, kt_49, ti1, ti2, ti3, ti4, ti22, ti30, ti32, ti52, ti69, ti93, ti97, eqt30, hw, hw1]
    | refine And.intro ?_ ?_
    | (refine hK _ ?_; clear hK K)
    | (refine hK _ ?_ ?_ <;> clear hK K)
    | apply_assumption (exfalso := false) (symm := false) only [*]
    | refine DrG.take rfl rfl rfl (by kernel_rfl) rfl (fun K hK => ?_)
    | refine DrG.one rfl rfl (by kernel_rfl) (by kernel_rfl) (by kernel_rfl) (fun K hK => ?_)
    | refine DrG.fin rfl (by kernel_rfl) (by kernel_rfl) ?_
    | refine Still.ofR rfl rfl rfl (by kernel_rfl) rfl (fun K hK => ?_)
    | refine DrG.alt rfl (by kernel_rfl) (by kernel_rfl) ?_
    | refine DrH.two rfl rfl (by kernel_rfl) (fun K hK => ?_) ?_
    | refine DrH.one rfl rfl (by kernel_rfl) (fun K hK => ?_)
    | refine calP_lent rfl rfl e4 rfl ?_
    | refine PW.ret ?_
    | refine PW.skip ?_
    | refine PW.exit ?_
    | refine PW.block ?_
    | refine PW.condT rfl ?_
    | refine PW.condF rfl ?_
    | (refine PW.condD rfl (fun hc => ?_) (fun hc => ?_) <;> first | (exfalso; omega) | skip)
    | (refine PW.condN rfl (fun hc => ?_) (fun hc => ?_) <;> first | (exfalso; omega) | skip)
    | refine PW.cond rfl (fun hc => ?_) (fun hc => ?_)
    | refine PW.regQ [3] ?_
    | refine PW.drawG sc_49 [3] hmix (by kernel_rfl) (fun K hK => ?_)
    | refine PW.label ?_
    | omega
    | (split <;> first | contradiction | skip)
  all_goals
    refine PW.freeze 0 7 rfl rfl rfl ?_
    simp only [push_cast, ↓reduceIte, Nat.reduceAdd, Nat.reduceSub, Nat.reduceMul, Nat.reduceEqDiff, Nat.reduceLT, Nat.reduceLeDiff, Int.reduceToNat, reduceCtorEq, Int.reduceEq, Int.reduceLT, Int.reduceLE, Int.reduceAdd, Int.reduceSub, Int.reduceMul, Int.reduceNeg, MV.top, kt_49, ti1, ti2, ti3, ti4, ti22, ti30, ti32, ti52, ti69, ti93, ti97]
    rcases hcase with ⟨h0, h1⟩ | ⟨h0, h1⟩
    · subst h0
      rw [h1]
      repeat' first
        | exact True.intro
        | refine runQ_step (fun K hK => ?_)
        | refine runQ_end ?_
        | refine PW.sregN kt_49 [3] (fun K hK => ?_)
        | simp only [push_cast, ↓reduceIte, Nat.reduceAdd, Nat.reduceSub, Nat.reduceMul, Nat.reduceEqDiff, Nat.reduceLT, Nat.reduceLeDiff, Int.reduceToNat, reduceCtorEq, Int.reduceEq, Int.reduceLT, Int.reduceLE, Int.reduceAdd, Int.reduceSub, Int.reduceMul, Int.reduceNeg, MV.top, kt_49, ti1, ti2, ti3, ti4, ti22, ti30, ti32, ti52, ti69, ti93, ti97, eqt30]
        | refine And.intro ?_ ?_
        | (refine hK _ ?_; clear hK K)
        | (refine hK _ ?_ ?_ <;> clear hK K)
        | apply_assumption (exfalso := false) (symm := false) only [*]
        | refine DrG.take rfl rfl rfl (by kernel_rfl) rfl (fun K hK => ?_)
        | refine DrG.one rfl rfl (by kernel_rfl) (by kernel_rfl) (by kernel_rfl) (fun K hK => ?_)
        | refine DrG.fin rfl (by kernel_rfl) (by kernel_rfl) ?_
        | refine Still.ofR rfl rfl rfl (by kernel_rfl) rfl (fun K hK => ?_)
        | refine DrG.alt rfl (by kernel_rfl) (by kernel_rfl) ?_
        | refine DrH.two rfl rfl (by kernel_rfl) (fun K hK => ?_) ?_
        | refine DrH.one rfl rfl (by kernel_rfl) (fun K hK => ?_)
        | refine PW.seq (fun K hK => ?_)
        | refine PW.ret ?_
        | refine PW.skip ?_
        | refine PW.exit ?_
        | refine PW.block ?_
        | refine PW.condT rfl ?_
        | refine PW.condF rfl ?_
        | (refine PW.condD rfl (fun hc => ?_) (fun hc => ?_) <;> first | (exfalso; omega) | skip)
        | (refine PW.condN rfl (fun hc => ?_) (fun hc => ?_) <;> first | (exfalso; omega) | skip)
        | refine PW.cond rfl (fun hc => ?_) (fun hc => ?_)
        | refine PW.regQ [3] ?_
        | refine PW.sdrawG kt_49 sc_49 [3] hmix (by kernel_rfl) (fun K hK => ?_)
        | refine PW.drawG sc_49 [3] hmix (by kernel_rfl) (fun K hK => ?_)
        | refine PW.label ?_
        | omega
        | (split <;> first | contradiction | skip)
    · rw [h1]
      repeat' first
        | exact True.intro
        | refine runQ_step (fun K hK => ?_)
        | refine runQ_end ?_
        | refine PW.sregN kt_49 [3] (fun K hK => ?_)
        | simp only [push_cast, ↓reduceIte, Nat.reduceAdd, Nat.reduceSub, Nat.reduceMul, Nat.reduceEqDiff, Nat.reduceLT, Nat.reduceLeDiff, Int.reduceToNat, reduceCtorEq, Int.reduceEq, Int.reduceLT, Int.reduceLE, Int.reduceAdd, Int.reduceSub, Int.reduceMul, Int.reduceNeg, MV.top, kt_49, ti1, ti2, ti3, ti4, ti22, ti30, ti32, ti52, ti69, ti93, ti97, eqt30, h0, hw2]
        | refine And.intro ?_ ?_
        | (refine hK _ ?_; clear hK K)
        | (refine hK _ ?_ ?_ <;> clear hK K)
        | apply_assumption (exfalso := false) (symm := false) only [*]
        | refine DrG.take rfl rfl rfl (by kernel_rfl) rfl (fun K hK => ?_)
        | refine DrG.one rfl rfl (by kernel_rfl) (by kernel_rfl) (by kernel_rfl) (fun K hK => ?_)
        | refine DrG.fin rfl (by kernel_rfl) (by kernel_rfl) ?_
        | refine Still.ofR rfl rfl rfl (by kernel_rfl) rfl (fun K hK => ?_)
        | refine DrG.alt rfl (by kernel_rfl) (by kernel_rfl) ?_
        | refine DrH.two rfl rfl (by kernel_rfl) (fun K hK => ?_) ?_
        | refine DrH.one rfl rfl (by kernel_rfl) (fun K hK => ?_)
        | refine calP_lent rfl rfl e6 rfl ?_
        | refine calP_ret rfl rfl rfl e5 ?_
        | refine PW.seq (fun K hK => ?_)
        | refine PW.ret ?_
        | refine PW.skip ?_
        | refine PW.exit ?_
        | refine PW.block ?_
        | refine PW.condT rfl ?_
        | refine PW.condF rfl ?_
        | (refine PW.condD rfl (fun hc => ?_) (fun hc => ?_) <;> first | (exfalso; omega) | skip)
        | (refine PW.condN rfl (fun hc => ?_) (fun hc => ?_) <;> first | (exfalso; omega) | skip)
        | refine PW.cond rfl (fun hc => ?_) (fun hc => ?_)
        | refine PW.regQ [3] ?_
        | refine PW.sdrawG kt_49 sc_49 [3] hmix (by kernel_rfl) (fun K hK => ?_)
        | refine PW.drawG sc_49 [3] hmix (by kernel_rfl) (fun K hK => ?_)
        | refine PW.label ?_
        | omega
        | (split <;> first | contradiction | skip)
end Go.Pv

