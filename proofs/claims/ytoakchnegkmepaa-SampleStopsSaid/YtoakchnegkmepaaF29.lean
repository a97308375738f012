/- Contracts of when to stop, the second way. -/
import Derived.Test.YtoakchnegkmepaaF28
set_option linter.unusedSimpArgs false
set_option linter.unusedVariables false
set_option maxRecDepth 100000
set_option maxHeartbeats 1500000
namespace Go.Pv
open Go Go.Proofs
attribute [local irreducible] PW Dr DrS DrN DrG DrH Spec SpecB runQ opP calP gdP Still


theorem win_take (bss : List (List Bool)) (r k : Nat) : ((bss.map fun bs => [MV.list (bs.map boolc)]).drop (k - r)).take (k - (k - r)) = (((bss.drop (k - r)).take (k - (k - r))).map fun bs => [MV.list (bs.map boolc)]) := by
  rw [← List.map_drop, ← List.map_take]

/-- Plans for open orders. -/
def sc_63 : List (Nat × Sc) := [(5, .take 2 (.take 3 (.take 4 (.take 6 (.take 7 (.take 8 (.two 0 [8, 7, 6, 4, 3, 2] (.two 1 [8, 7, 6, 4, 3, 2] (.take 5 (.one 9 [5, 8, 7, 6, 4, 3, 2] (.take 10 (.take 11 (.take 12 (.fin)))))) (.one 9 [8, 7, 6, 4, 3, 2] (.take 10 (.take 11 (.one 1 [11, 10, 8, 7, 6, 4, 3, 2] (.take 5 (.take 12 (.fin)))))))) (.one 9 [8, 7, 6, 4, 3, 2] (.take 10 (.take 11 (.one 0 [11, 10, 8, 7, 6, 4, 3, 2] (.one 1 [11, 10, 8, 7, 6, 4, 3, 2] (.take 5 (.take 12 (.fin)))))))))))))))]
/-- What is read later. -/
def kt_63 : List (Nat × List Nat) := [(0, [0, 3]), (1, [0, 3, 6]), (2, [0, 3, 6, 13]), (3, [0, 3, 6]), (4, [0, 3, 6, 7, 23]), (5, [0, 3, 6, 36]), (6, [4, 5]), (7, [4, 5])]
theorem StopsOf_spec (bss : List (List Bool)) (r : Nat) (n d : Int) (hl : bss.length ≤ 400) (hb : ∀ x ∈ bss, x.length ≤ 2000) (hr : 1 ≤ r ∧ r ≤ 2000) (h : shareOk n d = true) :
    Spec Try.prog 63 [rowsM bss, ruleM r n d] [(none, .int .i64 (stopAt (stopB bss r n d) bss.length 1)), (none, .bool (decide (0 < stopAt (stopB bss r n d) bss.length 1)))] := by
  have hsh : (1 ≤ d ∧ d ≤ 1000000) ∧ (0 ≤ n ∧ n ≤ d) := by simpa [shareOk, inV] using h
  have hskip : stopAt (stopB bss r n d) bss.length 1 = stopAt (stopB bss r n d) (bss.length + 1 - r) r := by
    have hf : ∀ j, 1 ≤ j → j < r → stopB bss r n d j = false := fun j _ h2 => by
      simp only [stopB, Bool.and_eq_false_imp, decide_eq_true_eq]; omega
    by_cases hc : r ≤ bss.length + 1
    · have := stopAt_skip (stopB bss r n d) (r - 1) (bss.length + 1 - r) 1 (fun j h1 h2 => hf j h1 (by omega))
      rw [show r - 1 + (bss.length + 1 - r) = bss.length by omega, show 1 + (r - 1) = r by omega] at this
      exact this
    · have := stopAt_skip (stopB bss r n d) bss.length 0 1 (fun j h1 h2 => hf j h1 (by omega))
      rw [show bss.length + 0 = bss.length by omega] at this
      rw [this, show bss.length + 1 - r = 0 by omega]; rfl
  rw [hskip]
  generalize hres : stopAt (stopB bss r n d) (bss.length + 1 - r) r = res
  clear hskip
  have key : ∀ bv, bv = decide (0 < res) → Spec Try.prog 63 [rowsM bss, ruleM r n d] [(none, .int .i64 res), (none, .bool bv)] := by
    intro bv hbv
    unfold rowsM ruleM bools at *
    refine spec_of (nt := 38) (rs := [.tmp 4, .tmp 5]) Try.func63 rfl rfl rfl rfl (by simp) (by simp [np]) (fun B => ?_)
    repeat' first
      | exact True.intro
      | refine runQ_step (fun K hK => ?_)
      | refine runQ_end ?_
      | refine PW.sregN kt_63 [3] (fun K hK => ?_)
      | simp only [push_cast, ↓reduceIte, Nat.reduceAdd, Nat.reduceSub, Nat.reduceMul, Nat.reduceEqDiff, Nat.reduceLT, Nat.reduceLeDiff, Int.reduceToNat, reduceCtorEq, Int.reduceEq, Int.reduceLT, Int.reduceLE, Int.reduceAdd, Int.reduceSub, Int.reduceMul, Int.reduceNeg, MV.top, kt_63, ti1, ti3, ti4, ti30, ti69, ti80, ti83, eqt30, eqt83, List.length_map]
      | refine And.intro ?_ ?_
      | (refine hK _ ?_; clear hK K)
      | (refine hK _ ?_ ?_ <;> clear hK K)
      | apply_assumption (exfalso := false) (symm := false) only [*]
      | refine DrG.take rfl rfl rfl (by kernel_rfl) rfl (fun K hK => ?_)
      | refine DrG.one rfl rfl (by kernel_rfl) (by kernel_rfl) (by kernel_rfl) (fun K hK => ?_)
      | refine DrG.fin rfl (by kernel_rfl) (by kernel_rfl) ?_
      | refine Still.ofR rfl rfl rfl (by kernel_rfl) rfl (fun K hK => ?_)
      | refine DrG.alt rfl (by kernel_rfl) (by kernel_rfl) ?_
      | refine DrH.two rfl rfl (by kernel_rfl) (fun K hK => ?_) ?_
      | refine DrH.one rfl rfl (by kernel_rfl) (fun K hK => ?_)
      | refine PW.seq (fun K hK => ?_)
      | refine PW.ret ?_
      | refine PW.skip ?_
      | refine PW.exit ?_
      | refine PW.block ?_
      | refine PW.condT rfl ?_
      | refine PW.condF rfl ?_
      | (refine PW.condD rfl (fun hc => ?_) (fun hc => ?_) <;> first | (exfalso; omega) | skip)
      | (refine PW.condN rfl (fun hc => ?_) (fun hc => ?_) <;> first | (exfalso; omega) | skip)
      | refine PW.cond rfl (fun hc => ?_) (fun hc => ?_)
      | refine PW.regQ [3] ?_
      | refine PW.sdrawG kt_63 sc_63 [3] hmix (by kernel_rfl) (fun K hK => ?_)
      | refine PW.drawG sc_63 [3] hmix (by kernel_rfl) (fun K hK => ?_)
      | refine PW.label ?_
      | omega
      | (split <;> first | contradiction | skip)
    refine PW.loopN [0, 3, 6] (fun k : Nat => ⟨[(0, .sh (.list (bss.map fun bs => [.list (bs.map boolc)]))), (3, .sh (.cptr [.int .i64 r, .int .i64 n, .int .i64 d] 0)), (6, .sh (.int .i64 k))], B⟩) (fun k => r ≤ k ∧ (k ≤ bss.length + 1 ∨ k = r) ∧ stopAt (stopB bss r n d) (bss.length + 1 - k) k = res) (fun k => bss.length + 1 - k) r ?_ ⟨Nat.le_refl _, .inr rfl, hres⟩ (fun k hk => ?_)
    · simp only [push_cast, ↓reduceIte, Nat.reduceAdd, Nat.reduceSub, Nat.reduceMul, Nat.reduceEqDiff, Nat.reduceLT, Nat.reduceLeDiff, Int.reduceToNat, reduceCtorEq, Int.reduceEq, Int.reduceLT, Int.reduceLE, Int.reduceAdd, Int.reduceSub, Int.reduceMul, Int.reduceNeg, MV.top, kt_63, ti1, ti3, ti4, ti30, ti69, ti80, ti83, List.length_map]
    obtain ⟨h0, h1, h2⟩ := hk
    by_cases hlt : k ≤ bss.length
    · have hlt2 : (k : Int) ≤ bss.length := by omega
      rw [show bss.length + 1 - k = (bss.length + 1 - (k + 1)) + 1 by omega] at h2
      unfold stopAt at h2
      have hwx : IntKind.i64.wrap ((k : Int) - r) = (k : Int) - r := wrap_id (by omega) (by omega)
      have hwi : IntKind.i64.wrap ((k : Int) + 1) = (k : Int) + 1 := wrap_id (by omega) (by omega)
      have htn : ((k : Int) - r).toNat = k - r := by omega
      have h0n : (0 : Int) ≤ (k : Int) - r := by omega
      have hkk : (k : Int) - r ≤ k := by omega
      have hwt := win_take bss r k
      have hsz : ∀ e, (bss.map fun bs => [MV.list (bs.map boolc)])[k - r]? = some e → e.length = 1 := by
        intro e he
        obtain ⟨x, _, rfl⟩ := List.mem_map.1 (List.mem_of_getElem? he)
        rfl
      have hwl : (winB bss r k).length ≤ 800000 := by
        have l1 := win_len bss r k
        have b1 := lenT_bd hb k hlt
        omega
      have ec := Concat_spec ((bss.drop (k - r)).take (k - (k - r))) (by rw [List.length_take]; omega) (by have : ((bss.drop (k - r)).take (k - (k - r))).flatten = winB bss r k := rfl; rw [this]; omega)
      have hfl : ((bss.drop (k - r)).take (k - (k - r))).flatten = winB bss r k := rfl
      rw [hfl] at ec
      have ea := AllOf_spec (winB bss r k) (by omega)
      have cb := cnt_bd (winB bss r k)
      have hm1 := mul_bd cb.1 (show cnt (winB bss r k) ≤ 800000 by omega) (show 0 ≤ d by omega) hsh.1.2
      have hm2 := mul_bd hsh.2.1 (show n ≤ 1000000 by omega) (show (0 : Int) ≤ (winB bss r k).length by omega) (show ((winB bss r k).length : Int) ≤ 800000 by omega)
      have hw6 : IntKind.i64.wrap (cnt (winB bss r k) * d) = cnt (winB bss r k) * d := wrap_id (by omega) (by omega)
      have hw7 : IntKind.i64.wrap (n * ((winB bss r k).length : Int)) = n * ((winB bss r k).length : Int) := wrap_id (by omega) (by omega)
      have hsb : stopB bss r n d k = (decide (r ≤ k) && decide (cnt (winB bss r k) * d ≤ n * (winB bss r k).length)) := rfl
      unfold rowsM bools at ec ea
      clear hfl hwl cb hm1 hm2 hb
      generalize winB bss r k = wb at *
      by_cases ht : cnt wb * d ≤ n * (wb.length : Int)
      · have hsb2 : stopB bss r n d k = true := by rw [hsb]; simp [ht, h0]
        rw [hsb2, if_pos rfl] at h2
        rw [← h2, decide_eq_true (by omega)] at hbv
        rw [← h2, hbv]
        repeat' first
          | exact True.intro
          | refine runQ_step (fun K hK => ?_)
          | refine runQ_end ?_
          | refine PW.sregN kt_63 [3] (fun K hK => ?_)
          | simp only [push_cast, ↓reduceIte, Nat.reduceAdd, Nat.reduceSub, Nat.reduceMul, Nat.reduceEqDiff, Nat.reduceLT, Nat.reduceLeDiff, Int.reduceToNat, reduceCtorEq, Int.reduceEq, Int.reduceLT, Int.reduceLE, Int.reduceAdd, Int.reduceSub, Int.reduceMul, Int.reduceNeg, MV.top, kt_63, ti1, ti3, ti4, ti30, ti69, ti80, ti83, eqt30, eqt83, hlt2, hwx, hwi, htn, h0n, hkk, hwt, hsz, hw6, hw7, ht, Int.toNat_natCast, List.length_map]
          | refine And.intro ?_ ?_
          | (refine hK _ ?_; clear hK K)
          | (refine hK _ ?_ ?_ <;> clear hK K)
          | apply_assumption (exfalso := false) (symm := false) only [*]
          | refine DrG.take rfl rfl rfl (by kernel_rfl) rfl (fun K hK => ?_)
          | refine DrG.one rfl rfl (by kernel_rfl) (by kernel_rfl) (by kernel_rfl) (fun K hK => ?_)
          | refine DrG.fin rfl (by kernel_rfl) (by kernel_rfl) ?_
          | refine Still.ofR rfl rfl rfl (by kernel_rfl) rfl (fun K hK => ?_)
          | refine DrG.alt rfl (by kernel_rfl) (by kernel_rfl) ?_
          | refine DrH.two rfl rfl (by kernel_rfl) (fun K hK => ?_) ?_
          | refine DrH.one rfl rfl (by kernel_rfl) (fun K hK => ?_)
          | refine calP_ret rfl rfl rfl ec ?_
          | refine calP_lent rfl rfl ea rfl ?_
          | refine PW.seq (fun K hK => ?_)
          | refine PW.ret ?_
          | refine PW.skip ?_
          | refine PW.exit ?_
          | refine PW.block ?_
          | refine PW.condT rfl ?_
          | refine PW.condF rfl ?_
          | (refine PW.condD rfl (fun hc => ?_) (fun hc => ?_) <;> first | (exfalso; omega) | skip)
          | (refine PW.condN rfl (fun hc => ?_) (fun hc => ?_) <;> first | (exfalso; omega) | skip)
          | refine PW.cond rfl (fun hc => ?_) (fun hc => ?_)
          | refine PW.regQ [3] ?_
          | refine PW.sdrawG kt_63 sc_63 [3] hmix (by kernel_rfl) (fun K hK => ?_)
          | refine PW.drawG sc_63 [3] hmix (by kernel_rfl) (fun K hK => ?_)
          | refine PW.label ?_
          | omega
          | (split <;> first | contradiction | skip)
      · have hsb2 : stopB bss r n d k = false := by rw [hsb]; simp [ht]
        rw [hsb2, if_neg (by simp)] at h2
        repeat' first
          | exact True.intro
          | refine runQ_step (fun K hK => ?_)
          | refine runQ_end ?_
          | refine PW.sregN kt_63 [3] (fun K hK => ?_)
          | simp only [push_cast, ↓reduceIte, Nat.reduceAdd, Nat.reduceSub, Nat.reduceMul, Nat.reduceEqDiff, Nat.reduceLT, Nat.reduceLeDiff, Int.reduceToNat, reduceCtorEq, Int.reduceEq, Int.reduceLT, Int.reduceLE, Int.reduceAdd, Int.reduceSub, Int.reduceMul, Int.reduceNeg, MV.top, kt_63, ti1, ti3, ti4, ti30, ti69, ti80, ti83, eqt30, eqt83, hlt2, hwx, hwi, htn, h0n, hkk, hwt, hsz, hw6, hw7, ht, Int.toNat_natCast, List.length_map]
          | refine And.intro ?_ ?_
          | (refine hK _ ?_; clear hK K)
          | (refine hK _ ?_ ?_ <;> clear hK K)
          | apply_assumption (exfalso := false) (symm := false) only [*]
          | refine DrG.take rfl rfl rfl (by kernel_rfl) rfl (fun K hK => ?_)
          | refine DrG.one rfl rfl (by kernel_rfl) (by kernel_rfl) (by kernel_rfl) (fun K hK => ?_)
          | refine DrG.fin rfl (by kernel_rfl) (by kernel_rfl) ?_
          | refine Still.ofR rfl rfl rfl (by kernel_rfl) rfl (fun K hK => ?_)
          | refine DrG.alt rfl (by kernel_rfl) (by kernel_rfl) ?_
          | refine DrH.two rfl rfl (by kernel_rfl) (fun K hK => ?_) ?_
          | refine DrH.one rfl rfl (by kernel_rfl) (fun K hK => ?_)
          | refine calP_ret rfl rfl rfl ec ?_
          | refine calP_lent rfl rfl ea rfl ?_
          | refine PW.seq (fun K hK => ?_)
          | refine PW.ret ?_
          | refine PW.skip ?_
          | refine PW.exit ?_
          | refine PW.block ?_
          | refine PW.condT rfl ?_
          | refine PW.condF rfl ?_
          | (refine PW.condD rfl (fun hc => ?_) (fun hc => ?_) <;> first | (exfalso; omega) | skip)
          | (refine PW.condN rfl (fun hc => ?_) (fun hc => ?_) <;> first | (exfalso; omega) | skip)
          | refine PW.cond rfl (fun hc => ?_) (fun hc => ?_)
          | refine PW.regQ [3] ?_
          | refine PW.sdrawG kt_63 sc_63 [3] hmix (by kernel_rfl) (fun K hK => ?_)
          | refine PW.drawG sc_63 [3] hmix (by kernel_rfl) (fun K hK => ?_)
          | refine PW.label ?_
          | omega
          | (split <;> first | contradiction | skip)
        all_goals exact ⟨k + 1, rfl, ⟨by omega, .inl (by omega), h2⟩, by omega⟩
    · have hlt2 : ¬ (k : Int) ≤ bss.length := by omega
      rw [show bss.length + 1 - k = 0 by omega] at h2
      have : res = 0 := h2.symm
      rw [this] at hbv ⊢
      rw [show decide ((0 : Int) < 0) = false from rfl] at hbv
      repeat' first
        | exact True.intro
        | refine runQ_step (fun K hK => ?_)
        | refine runQ_end ?_
        | refine PW.sregN kt_63 [3] (fun K hK => ?_)
        | simp only [push_cast, ↓reduceIte, Nat.reduceAdd, Nat.reduceSub, Nat.reduceMul, Nat.reduceEqDiff, Nat.reduceLT, Nat.reduceLeDiff, Int.reduceToNat, reduceCtorEq, Int.reduceEq, Int.reduceLT, Int.reduceLE, Int.reduceAdd, Int.reduceSub, Int.reduceMul, Int.reduceNeg, MV.top, kt_63, ti1, ti3, ti4, ti30, ti69, ti80, ti83, eqt30, eqt83, hlt2, List.length_map]
        | refine And.intro ?_ ?_
        | (refine hK _ ?_; clear hK K)
        | (refine hK _ ?_ ?_ <;> clear hK K)
        | apply_assumption (exfalso := false) (symm := false) only [*]
        | refine DrG.take rfl rfl rfl (by kernel_rfl) rfl (fun K hK => ?_)
        | refine DrG.one rfl rfl (by kernel_rfl) (by kernel_rfl) (by kernel_rfl) (fun K hK => ?_)
        | refine DrG.fin rfl (by kernel_rfl) (by kernel_rfl) ?_
        | refine Still.ofR rfl rfl rfl (by kernel_rfl) rfl (fun K hK => ?_)
        | refine DrG.alt rfl (by kernel_rfl) (by kernel_rfl) ?_
        | refine DrH.two rfl rfl (by kernel_rfl) (fun K hK => ?_) ?_
        | refine DrH.one rfl rfl (by kernel_rfl) (fun K hK => ?_)
        | refine PW.seq (fun K hK => ?_)
        | refine PW.ret ?_
        | refine PW.skip ?_
        | refine PW.exit ?_
        | refine PW.block ?_
        | refine PW.condT rfl ?_
        | refine PW.condF rfl ?_
        | (refine PW.condD rfl (fun hc => ?_) (fun hc => ?_) <;> first | (exfalso; omega) | skip)
        | (refine PW.condN rfl (fun hc => ?_) (fun hc => ?_) <;> first | (exfalso; omega) | skip)
        | refine PW.cond rfl (fun hc => ?_) (fun hc => ?_)
        | refine PW.regQ [3] ?_
        | refine PW.sdrawG kt_63 sc_63 [3] hmix (by kernel_rfl) (fun K hK => ?_)
        | refine PW.drawG sc_63 [3] hmix (by kernel_rfl) (fun K hK => ?_)
        | refine PW.label ?_
        | omega
        | (split <;> first | contradiction | skip)
      all_goals exact hbv.symm
  exact key _ rfl
end Go.Pv

