/- The law SampleGains. -/
import Derived.Test.YtoakchnegkmepaaF24
set_option linter.unusedSimpArgs false
set_option linter.unusedVariables false
set_option maxRecDepth 100000
set_option maxHeartbeats 2000000
namespace Go.Pv
open Go Go.Proofs
attribute [local irreducible] PW Dr DrS DrN DrG DrH Spec SpecB runQ opP calP gdP Still

theorem PW.shareS {P : Program} {nt : Nat} {st : St} {Q : PX → St → Prop} {c : Code} (s : Nat) (h : PW P nt c (st.retire (.slot s)) Q) : PW P nt c st Q := by
  unfold PW at *
  intro γ ω w a R hr hq
  obtain ⟨ω', h1, h2⟩ := hr.retire (.slot s)
  exact h γ ω' w a R h2 (fun e γ2 ω2 w2 st2 a2 g1 g2 g3 => hq e _ _ _ _ _ (h1.trans g1) g2 g3)

theorem rep_bools (n : Nat) : List.replicate n [MV.bool false] = (List.replicate n false).map boolc := by
  rw [List.map_replicate]; rfl
theorem cnt_rep (n : Nat) : cnt (List.replicate n false) = 0 := by
  unfold cnt
  rw [List.count_replicate]; rfl

/-- Plans for open orders. -/
def sc_10 : List (Nat × Sc) := [(20, .take 0 (.take 1 (.take 2 (.take 3 (.take 4 (.take 5 (.take 6 (.take 7 (.one 8 [6, 5, 4, 3, 1, 0] (.take 9 (.one 10 [6, 5, 3, 1, 0] (.take 11 (.take 12 (.take 13 (.one 14 [12, 11, 6, 5, 3, 1, 0] (.take 15 (.one 16 [] (.fin))))))))))))))))))]
/-- What is read later. -/
def kt_10 : List (Nat × List Nat) := [(0, [0]), (1, [3, 16]), (2, [3, 4, 16, 18, 24]), (3, [3, 4, 16, 18, 20, 24]), (4, [4, 18, 24]), (5, [4, 5, 6, 18, 24, 25, 28]), (6, [4, 5, 6, 7, 8, 18, 24, 25, 28]), (7, [4, 5, 6, 7, 8, 9, 10, 18, 24, 25, 28]), (8, [4, 5, 6, 7, 8, 9, 10, 18, 24, 25, 28, 42]), (9, [2]), (10, [4, 7, 8, 18, 24, 88]), (11, [2]), (12, [4, 7, 8, 11, 18, 24]), (13, [4, 7, 8, 11, 18, 24, 90, 91, 92]), (14, [4, 7, 8, 11, 18, 24, 90, 91, 92, 93]), (15, [4, 7, 8, 11, 13, 18, 24, 90, 91, 92]), (16, [4, 7, 8, 11, 18, 24, 90, 91, 92]), (17, [4, 7, 8, 11, 18, 24, 90, 91, 92]), (18, [4, 7, 8, 11, 18, 24, 102]), (19, [2]), (20, [2])]
theorem SampleGains_spec (ls : List Int) : Spec Try.prog 10 [ints ls] [(none, .bool true)] := by
  have hnp := np_ints ls
  obtain ⟨bs0, a2, hl0, ha0, e1⟩ := Relevant_spec ls 0 (by omega) (by omega)
  have e2 := fun B hB => @Flip_spec B 0 ls a2 40 hB (by omega) (by omega)
  have e3 := fun B hB => @Pick_spec B 0 ls (a2 + 1) [2000, 2001] hB (by omega) (by omega) (by simp) (by simp)
  have hp := pickV_mem (ls := ls) (at_ := a2 + 1) (xs := [2000, 2001]) (by simp) (by simp)
  simp only [List.mem_cons, List.not_mem_nil, or_false] at hp
  generalize pickV ls (a2 + 1) [2000, 2001] = m at e3 hp
  have hm0 : 0 ≤ m := by omega
  have hm1 : m ≤ 1000000000 := by omega
  have hm2 : m.toNat = 2000 ∨ m.toNat = 2001 := by omega
  clear hp
  have ed := drawn_spec
  unfold ints bools at *
  refine spec_of0 (nt := 129) (rs := [.tmp 2]) Try.func10 rfl rfl rfl rfl (by simp) (by simp [np]) (by intro x hx; simp only [List.mem_cons, List.not_mem_nil, or_false] at hx; subst hx; exact hnp) ?_
  clear hnp
  refine PW.sregN kt_10 [] (fun K hK => ?_)
  repeat' first
    | exact True.intro
    | refine runQ_step (fun K hK => ?_)
    | refine runQ_end ?_
    | simp only [push_cast, ↓reduceIte, Nat.reduceAdd, Nat.reduceSub, Nat.reduceMul, Nat.reduceEqDiff, Nat.reduceLT, Nat.reduceLeDiff, Int.reduceToNat, reduceCtorEq, Int.reduceEq, Int.reduceLT, Int.reduceLE, Int.reduceAdd, Int.reduceSub, Int.reduceMul, Int.reduceNeg, MV.top, kt_10, ti1, ti2, ti3, ti4, ti22, ti23, ti25, ti30, ti32, ti69, eqt30]
    | refine And.intro ?_ ?_
    | (refine hK _ ?_; clear hK K)
    | (refine hK _ ?_ ?_ <;> clear hK K)
    | apply_assumption (exfalso := false) (symm := false) only [*]
    | refine runQ_gC rfl (fun K hK => ?_)
    | refine runQ_gS rfl rfl ?_
    | refine runQ_gU rfl rfl ?_
    | (refine runQ_gT rfl (fun hc K hK => ?_) (fun hc => ?_) <;> first | (exfalso; omega) | skip)
    | (refine runQ_gF rfl (fun hc K hK => ?_) (fun hc => ?_) <;> first | (exfalso; omega) | skip)
    | refine runQ_guard rfl (fun hc K hK => ?_) (fun hc => ?_)
    | refine DrG.take rfl rfl rfl (by kernel_rfl) rfl (fun K hK => ?_)
    | refine DrG.one rfl rfl (by kernel_rfl) (by kernel_rfl) (by kernel_rfl) (fun K hK => ?_)
    | refine DrG.fin rfl (by kernel_rfl) (by kernel_rfl) ?_
    | refine Still.ofR rfl rfl rfl (by kernel_rfl) rfl (fun K hK => ?_)
    | refine DrG.takeW rfl rfl rfl rfl rfl (by kernel_rfl) rfl (fun K hK => ?_)
    | refine DrG.skipW rfl rfl rfl rfl rfl (by kernel_rfl) rfl ?_
    | refine DrG.oneW rfl rfl rfl rfl (by kernel_rfl) (by kernel_rfl) (by kernel_rfl) (fun K hK => ?_)
    | refine DrG.oneS rfl rfl rfl rfl rfl (by kernel_rfl) (by kernel_rfl) (by kernel_rfl) (by simp only [dOk]; omega) (fun K hK => ?_)
    | refine DrG.oneU rfl rfl rfl rfl (by kernel_rfl) (by kernel_rfl) (by kernel_rfl) (by simp only [dOk]; omega) (fun K hK => ?_)
    | refine Still.ofGW rfl rfl rfl rfl (by kernel_rfl) rfl (fun K hK => ?_)
    | refine Still.ofGS rfl rfl rfl rfl (by kernel_rfl) rfl
    | refine PW.ret ?_
    | refine PW.skip ?_
    | refine PW.exit ?_
    | refine PW.block ?_
    | refine PW.condT rfl ?_
    | refine PW.condF rfl ?_
    | (refine PW.condD rfl (fun hc => ?_) (fun hc => ?_) <;> first | (exfalso; omega) | skip)
    | (refine PW.condN rfl (fun hc => ?_) (fun hc => ?_) <;> first | (exfalso; omega) | skip)
    | refine PW.cond rfl (fun hc => ?_) (fun hc => ?_)
    | refine PW.regQ [] ?_
    | refine PW.drawG sc_10 [] hmix (by kernel_rfl) (fun K hK => ?_)
    | refine PW.label ?_
    | omega
    | (split <;> first | contradiction | skip)
  refine PW.sregN kt_10 [] (fun K hK => ?_)
  repeat' first
    | exact True.intro
    | refine runQ_step (fun K hK => ?_)
    | refine runQ_end ?_
    | simp only [push_cast, ↓reduceIte, Nat.reduceAdd, Nat.reduceSub, Nat.reduceMul, Nat.reduceEqDiff, Nat.reduceLT, Nat.reduceLeDiff, Int.reduceToNat, reduceCtorEq, Int.reduceEq, Int.reduceLT, Int.reduceLE, Int.reduceAdd, Int.reduceSub, Int.reduceMul, Int.reduceNeg, MV.top, kt_10, ti1, ti2, ti3, ti4, ti22, ti23, ti25, ti30, ti32, ti69, eqt30, strm]
    | refine And.intro ?_ ?_
    | (refine hK _ ?_; clear hK K)
    | (refine hK _ ?_ ?_ <;> clear hK K)
    | apply_assumption (exfalso := false) (symm := false) only [*]
    | refine runQ_gC rfl (fun K hK => ?_)
    | refine runQ_gS rfl rfl ?_
    | refine runQ_gU rfl rfl ?_
    | (refine runQ_gT rfl (fun hc K hK => ?_) (fun hc => ?_) <;> first | (exfalso; omega) | skip)
    | (refine runQ_gF rfl (fun hc K hK => ?_) (fun hc => ?_) <;> first | (exfalso; omega) | skip)
    | refine runQ_guard rfl (fun hc K hK => ?_) (fun hc => ?_)
    | refine DrG.take rfl rfl rfl (by kernel_rfl) rfl (fun K hK => ?_)
    | refine DrG.one rfl rfl (by kernel_rfl) (by kernel_rfl) (by kernel_rfl) (fun K hK => ?_)
    | refine DrG.fin rfl (by kernel_rfl) (by kernel_rfl) ?_
    | refine Still.ofR rfl rfl rfl (by kernel_rfl) rfl (fun K hK => ?_)
    | refine DrG.takeW rfl rfl rfl rfl rfl (by kernel_rfl) rfl (fun K hK => ?_)
    | refine DrG.skipW rfl rfl rfl rfl rfl (by kernel_rfl) rfl ?_
    | refine DrG.oneW rfl rfl rfl rfl (by kernel_rfl) (by kernel_rfl) (by kernel_rfl) (fun K hK => ?_)
    | refine DrG.oneS rfl rfl rfl rfl rfl (by kernel_rfl) (by kernel_rfl) (by kernel_rfl) (by simp only [dOk]; omega) (fun K hK => ?_)
    | refine DrG.oneU rfl rfl rfl rfl (by kernel_rfl) (by kernel_rfl) (by kernel_rfl) (by simp only [dOk]; omega) (fun K hK => ?_)
    | refine Still.ofGW rfl rfl rfl rfl (by kernel_rfl) rfl (fun K hK => ?_)
    | refine Still.ofGS rfl rfl rfl rfl (by kernel_rfl) rfl
    | refine PW.ret ?_
    | refine PW.skip ?_
    | refine PW.exit ?_
    | refine PW.block ?_
    | refine PW.condT rfl ?_
    | refine PW.condF rfl ?_
    | (refine PW.condD rfl (fun hc => ?_) (fun hc => ?_) <;> first | (exfalso; omega) | skip)
    | (refine PW.condN rfl (fun hc => ?_) (fun hc => ?_) <;> first | (exfalso; omega) | skip)
    | refine PW.cond rfl (fun hc => ?_) (fun hc => ?_)
    | refine PW.regQ [] ?_
    | refine PW.drawG sc_10 [] hmix (by kernel_rfl) (fun K hK => ?_)
    | refine PW.label ?_
    | omega
    | (split <;> first | contradiction | skip)
  refine PW.sregN kt_10 [] (fun K hK => ?_)
  repeat' first
    | exact True.intro
    | refine runQ_step (fun K hK => ?_)
    | refine runQ_end ?_
    | simp only [push_cast, ↓reduceIte, Nat.reduceAdd, Nat.reduceSub, Nat.reduceMul, Nat.reduceEqDiff, Nat.reduceLT, Nat.reduceLeDiff, Int.reduceToNat, reduceCtorEq, Int.reduceEq, Int.reduceLT, Int.reduceLE, Int.reduceAdd, Int.reduceSub, Int.reduceMul, Int.reduceNeg, MV.top, kt_10, ti1, ti2, ti3, ti4, ti22, ti23, ti25, ti30, ti32, ti69, eqt30, strm]
    | refine And.intro ?_ ?_
    | (refine hK _ ?_; clear hK K)
    | (refine hK _ ?_ ?_ <;> clear hK K)
    | apply_assumption (exfalso := false) (symm := false) only [*]
    | refine runQ_gC rfl (fun K hK => ?_)
    | refine runQ_gS rfl rfl ?_
    | refine runQ_gU rfl rfl ?_
    | (refine runQ_gT rfl (fun hc K hK => ?_) (fun hc => ?_) <;> first | (exfalso; omega) | skip)
    | (refine runQ_gF rfl (fun hc K hK => ?_) (fun hc => ?_) <;> first | (exfalso; omega) | skip)
    | refine runQ_guard rfl (fun hc K hK => ?_) (fun hc => ?_)
    | refine DrG.take rfl rfl rfl (by kernel_rfl) rfl (fun K hK => ?_)
    | refine DrG.one rfl rfl (by kernel_rfl) (by kernel_rfl) (by kernel_rfl) (fun K hK => ?_)
    | refine DrG.fin rfl (by kernel_rfl) (by kernel_rfl) ?_
    | refine Still.ofR rfl rfl rfl (by kernel_rfl) rfl (fun K hK => ?_)
    | refine DrG.takeW rfl rfl rfl rfl rfl (by kernel_rfl) rfl (fun K hK => ?_)
    | refine DrG.skipW rfl rfl rfl rfl rfl (by kernel_rfl) rfl ?_
    | refine DrG.oneW rfl rfl rfl rfl (by kernel_rfl) (by kernel_rfl) (by kernel_rfl) (fun K hK => ?_)
    | refine DrG.oneS rfl rfl rfl rfl rfl (by kernel_rfl) (by kernel_rfl) (by kernel_rfl) (by simp only [dOk]; omega) (fun K hK => ?_)
    | refine DrG.oneU rfl rfl rfl rfl (by kernel_rfl) (by kernel_rfl) (by kernel_rfl) (by simp only [dOk]; omega) (fun K hK => ?_)
    | refine Still.ofGW rfl rfl rfl rfl (by kernel_rfl) rfl (fun K hK => ?_)
    | refine Still.ofGS rfl rfl rfl rfl (by kernel_rfl) rfl
    | refine calP_box rfl rfl (e1 _ 0 rfl) ?_
    | refine PW.ret ?_
    | refine PW.skip ?_
    | refine PW.exit ?_
    | refine PW.block ?_
    | refine PW.condT rfl ?_
    | refine PW.condF rfl ?_
    | (refine PW.condD rfl (fun hc => ?_) (fun hc => ?_) <;> first | (exfalso; omega) | skip)
    | (refine PW.condN rfl (fun hc => ?_) (fun hc => ?_) <;> first | (exfalso; omega) | skip)
    | refine PW.cond rfl (fun hc => ?_) (fun hc => ?_)
    | refine PW.regQ [] ?_
    | refine PW.drawG sc_10 [] hmix (by kernel_rfl) (fun K hK => ?_)
    | refine PW.label ?_
    | omega
    | (split <;> first | contradiction | skip)
  clear e1
  refine PW.cutE [4] (fun q : List Bool × Bool × Int => ⟨[(4, if q.2.1 = true then .own 1 (.list (q.1.map boolc)) else .sh (.list (q.1.map boolc)))], [strm ls q.2.2]⟩) (fun q => q.1.length ≤ 20 ∨ (cnt q.1 = 0 ∧ (q.1.length = 2000 ∨ q.1.length = 2001))) ?_ (fun q hq => ?_)
  · skip
    repeat' first
      | exact True.intro
      | refine runQ_step (fun K hK => ?_)
      | refine runQ_end ?_
      | refine PW.sregN kt_10 [] (fun K hK => ?_)
      | simp only [push_cast, ↓reduceIte, Nat.reduceAdd, Nat.reduceSub, Nat.reduceMul, Nat.reduceEqDiff, Nat.reduceLT, Nat.reduceLeDiff, Int.reduceToNat, reduceCtorEq, Int.reduceEq, Int.reduceLT, Int.reduceLE, Int.reduceAdd, Int.reduceSub, Int.reduceMul, Int.reduceNeg, MV.top, kt_10, ti1, ti2, ti3, ti4, ti22, ti23, ti25, ti30, ti32, ti69, eqt30, strm, hm0, hm1, rep_bools]
      | refine And.intro ?_ ?_
      | (refine hK _ ?_; clear hK K)
      | (refine hK _ ?_ ?_ <;> clear hK K)
      | apply_assumption (exfalso := false) (symm := false) only [*]
      | refine runQ_gC rfl (fun K hK => ?_)
      | refine runQ_gS rfl rfl ?_
      | refine runQ_gU rfl rfl ?_
      | (refine runQ_gT rfl (fun hc K hK => ?_) (fun hc => ?_) <;> first | (exfalso; omega) | skip)
      | (refine runQ_gF rfl (fun hc K hK => ?_) (fun hc => ?_) <;> first | (exfalso; omega) | skip)
      | refine runQ_guard rfl (fun hc K hK => ?_) (fun hc => ?_)
      | refine DrG.take rfl rfl rfl (by kernel_rfl) rfl (fun K hK => ?_)
      | refine DrG.one rfl rfl (by kernel_rfl) (by kernel_rfl) (by kernel_rfl) (fun K hK => ?_)
      | refine DrG.fin rfl (by kernel_rfl) (by kernel_rfl) ?_
      | refine Still.ofR rfl rfl rfl (by kernel_rfl) rfl (fun K hK => ?_)
      | refine DrG.takeW rfl rfl rfl rfl rfl (by kernel_rfl) rfl (fun K hK => ?_)
      | refine DrG.skipW rfl rfl rfl rfl rfl (by kernel_rfl) rfl ?_
      | refine DrG.oneW rfl rfl rfl rfl (by kernel_rfl) (by kernel_rfl) (by kernel_rfl) (fun K hK => ?_)
      | refine DrG.oneS rfl rfl rfl rfl rfl (by kernel_rfl) (by kernel_rfl) (by kernel_rfl) (by simp only [dOk]; omega) (fun K hK => ?_)
      | refine DrG.oneU rfl rfl rfl rfl (by kernel_rfl) (by kernel_rfl) (by kernel_rfl) (by simp only [dOk]; omega) (fun K hK => ?_)
      | refine Still.ofGW rfl rfl rfl rfl (by kernel_rfl) rfl (fun K hK => ?_)
      | refine Still.ofGS rfl rfl rfl rfl (by kernel_rfl) rfl
      | refine calP_box rfl rfl (e2 _ rfl) ?_
      | refine calP_box rfl rfl (e3 _ rfl) ?_
      | refine PW.seq (fun K hK => ?_)
      | refine PW.ret ?_
      | refine PW.skip ?_
      | refine PW.exit ?_
      | refine PW.block ?_
      | refine PW.condT rfl ?_
      | refine PW.condF rfl ?_
      | (refine PW.condD rfl (fun hc => ?_) (fun hc => ?_) <;> first | (exfalso; omega) | skip)
      | (refine PW.condN rfl (fun hc => ?_) (fun hc => ?_) <;> first | (exfalso; omega) | skip)
      | refine PW.cond rfl (fun hc => ?_) (fun hc => ?_)
      | refine PW.regQ [] ?_
      | refine PW.sdrawG kt_10 sc_10 [] hmix (by kernel_rfl) (fun K hK => ?_)
      | refine PW.drawG sc_10 [] hmix (by kernel_rfl) (fun K hK => ?_)
      | refine PW.label ?_
      | omega
      | (split <;> first | contradiction | skip)
    · exact ⟨(List.replicate m.toNat false, true, _), rfl, .inr ⟨cnt_rep _, by rw [List.length_replicate]; exact hm2⟩⟩
    · exact ⟨(bs0, false, _), rfl, .inl hl0⟩
  clear e2 e3 hm0 hm1 hm2 hl0 ha0
  obtain ⟨bs, fl, a3⟩ := q
  simp only at hq ⊢
  refine PW.shareS 4 ?_
  have hsh : St.retire ⟨[(4, if fl = true then Ct.own 1 (.list (bs.map boolc)) else .sh (.list (bs.map boolc)))], [strm ls a3]⟩ (.slot 4) = ⟨[(4, .sh (.list (bs.map boolc)))], [strm ls a3]⟩ := by cases fl <;> rfl
  rw [hsh]
  clear hsh fl
  generalize strm ls a3 = bx
  by_cases hbig : bs.length = 2001
  · have e1 := Gains_big bs (by omega)
    have hc : cnt bs = 0 := by omega
    have e2 := Area_err bs 2 (by omega) (by rw [decide_eq_true (by omega), hc]; rfl) (by decide)
    have e3 := Knee_big bs (by omega)
    unfold bools fracV at *
    have hgt : (2000 : Int) < bs.length := by omega
    repeat' first
      | exact True.intro
      | refine runQ_step (fun K hK => ?_)
      | refine runQ_end ?_
      | refine PW.sregN kt_10 [] (fun K hK => ?_)
      | simp only [push_cast, ↓reduceIte, Nat.reduceAdd, Nat.reduceSub, Nat.reduceMul, Nat.reduceEqDiff, Nat.reduceLT, Nat.reduceLeDiff, Int.reduceToNat, reduceCtorEq, Int.reduceEq, Int.reduceLT, Int.reduceLE, Int.reduceAdd, Int.reduceSub, Int.reduceMul, Int.reduceNeg, MV.top, kt_10, ti1, ti2, ti3, ti4, ti22, ti23, ti25, ti30, ti32, ti69, eqt30, hgt, List.length_map]
      | refine And.intro ?_ ?_
      | (refine hK _ ?_; clear hK K)
      | (refine hK _ ?_ ?_ <;> clear hK K)
      | apply_assumption (exfalso := false) (symm := false) only [*]
      | refine runQ_gC rfl (fun K hK => ?_)
      | refine runQ_gS rfl rfl ?_
      | refine runQ_gU rfl rfl ?_
      | (refine runQ_gT rfl (fun hc K hK => ?_) (fun hc => ?_) <;> first | (exfalso; omega) | skip)
      | (refine runQ_gF rfl (fun hc K hK => ?_) (fun hc => ?_) <;> first | (exfalso; omega) | skip)
      | refine runQ_guard rfl (fun hc K hK => ?_) (fun hc => ?_)
      | refine DrG.take rfl rfl rfl (by kernel_rfl) rfl (fun K hK => ?_)
      | refine DrG.one rfl rfl (by kernel_rfl) (by kernel_rfl) (by kernel_rfl) (fun K hK => ?_)
      | refine DrG.fin rfl (by kernel_rfl) (by kernel_rfl) ?_
      | refine Still.ofR rfl rfl rfl (by kernel_rfl) rfl (fun K hK => ?_)
      | refine DrG.takeW rfl rfl rfl rfl rfl (by kernel_rfl) rfl (fun K hK => ?_)
      | refine DrG.skipW rfl rfl rfl rfl rfl (by kernel_rfl) rfl ?_
      | refine DrG.oneW rfl rfl rfl rfl (by kernel_rfl) (by kernel_rfl) (by kernel_rfl) (fun K hK => ?_)
      | refine DrG.oneS rfl rfl rfl rfl rfl (by kernel_rfl) (by kernel_rfl) (by kernel_rfl) (by simp only [dOk]; omega) (fun K hK => ?_)
      | refine DrG.oneU rfl rfl rfl rfl (by kernel_rfl) (by kernel_rfl) (by kernel_rfl) (by simp only [dOk]; omega) (fun K hK => ?_)
      | refine Still.ofGW rfl rfl rfl rfl (by kernel_rfl) rfl (fun K hK => ?_)
      | refine Still.ofGS rfl rfl rfl rfl (by kernel_rfl) rfl
      | refine calP_ret rfl rfl rfl e1 ?_
      | refine calP_lent rfl rfl e2 rfl ?_
      | refine calP_lent rfl rfl e3 rfl ?_
      | refine calP_lent rfl rfl ed rfl ?_
      | refine PW.seq (fun K hK => ?_)
      | refine PW.ret ?_
      | refine PW.skip ?_
      | refine PW.exit ?_
      | refine PW.block ?_
      | refine PW.condT rfl ?_
      | refine PW.condF rfl ?_
      | (refine PW.condD rfl (fun hc => ?_) (fun hc => ?_) <;> first | (exfalso; omega) | skip)
      | (refine PW.condN rfl (fun hc => ?_) (fun hc => ?_) <;> first | (exfalso; omega) | skip)
      | refine PW.cond rfl (fun hc => ?_) (fun hc => ?_)
      | refine PW.regQ [] ?_
      | refine PW.sdrawG kt_10 sc_10 [] hmix (by kernel_rfl) (fun K hK => ?_)
      | refine PW.drawG sc_10 [] hmix (by kernel_rfl) (fun K hK => ?_)
      | refine PW.label ?_
      | omega
      | (split <;> first | contradiction | skip)
  have hl : bs.length ≤ 2000 := by omega
  clear hq
  have hgt : ¬ (2000 : Int) < bs.length := by omega
  have e1 := Gains_ok bs hl
  have e3 := Knee_ok bs hl
  have e4 := GainsOf_spec bs hl
  have e5 := Equal_same (gainsL bs) (by rw [gainsL_len]; omega)
  have e6 := KneeOf_spec bs hl
  have e7 := AllOf_spec bs (by omega)
  have hcb := cnt_bd bs
  have hsb := fun i hi => sumL_bd (xs := gainsL bs) (M := 2000) (fun x hx => by have := gains_mem hx; omega) i hi
  have hgl := gainsL_len bs
  have hst := hsb (gainsL bs).length (Nat.le_refl _)
  rw [List.take_length] at hst
  have hmb := mul_bd (show (0 : Int) ≤ bs.length by omega) (show (bs.length : Int) ≤ 2000 by omega) hcb.1 (show cnt bs ≤ 2000 by omega)
  have hw1 : IntKind.i64.wrap ((bs.length : Int) * cnt bs) = bs.length * cnt bs := wrap_id (by omega) (by omega)
  have harea : ∃ x y ae, Spec Try.prog 53 [bools bs] [(none, fracV x y), (none, .int .i64 ae)] ∧ ((cnt bs = 0 ∧ x = 0 ∧ y = 0 ∧ ae = 8) ∨ (¬ cnt bs = 0 ∧ ae = 0 ∧ Spec Try.prog 40 [.int .i64 (sumL (gainsL bs)), .int .i64 (bs.length * cnt bs)] [(none, fracV x y)])) := by
    by_cases hc : cnt bs = 0
    · exact ⟨0, 0, 8, Area_err bs 8 (by omega) (by rw [decide_eq_false hgt, hc]; rfl) (by decide), .inl ⟨hc, rfl, rfl, rfl⟩⟩
    · have hpos : 0 < (bs.length : Int) * cnt bs := Int.mul_pos (by omega) (by omega)
      exact ⟨_, _, 0, Area_ok bs hl hc, .inr ⟨hc, rfl, Lowest_spec (sumL (gainsL bs)) (bs.length * cnt bs) (by omega) (by omega) hpos (by omega)⟩⟩
  obtain ⟨x, y, ae, e2, hae⟩ := harea
  unfold bools fracV ints at *
  generalize (kneeIt bs bs.length).2 = kn at *
  repeat' first
    | exact True.intro
    | refine runQ_step (fun K hK => ?_)
    | refine runQ_end ?_
    | refine PW.sregN kt_10 [] (fun K hK => ?_)
    | simp only [push_cast, ↓reduceIte, Nat.reduceAdd, Nat.reduceSub, Nat.reduceMul, Nat.reduceEqDiff, Nat.reduceLT, Nat.reduceLeDiff, Int.reduceToNat, reduceCtorEq, Int.reduceEq, Int.reduceLT, Int.reduceLE, Int.reduceAdd, Int.reduceSub, Int.reduceMul, Int.reduceNeg, MV.top, kt_10, ti1, ti2, ti3, ti4, ti22, ti23, ti25, ti30, ti32, ti69, eqt30, hgt, hgl, List.length_map]
    | refine And.intro ?_ ?_
    | (refine hK _ ?_; clear hK K)
    | (refine hK _ ?_ ?_ <;> clear hK K)
    | apply_assumption (exfalso := false) (symm := false) only [*]
    | refine runQ_gC rfl (fun K hK => ?_)
    | refine runQ_gS rfl rfl ?_
    | refine runQ_gU rfl rfl ?_
    | (refine runQ_gT rfl (fun hc K hK => ?_) (fun hc => ?_) <;> first | (exfalso; omega) | skip)
    | (refine runQ_gF rfl (fun hc K hK => ?_) (fun hc => ?_) <;> first | (exfalso; omega) | skip)
    | refine runQ_guard rfl (fun hc K hK => ?_) (fun hc => ?_)
    | refine DrG.take rfl rfl rfl (by kernel_rfl) rfl (fun K hK => ?_)
    | refine DrG.one rfl rfl (by kernel_rfl) (by kernel_rfl) (by kernel_rfl) (fun K hK => ?_)
    | refine DrG.fin rfl (by kernel_rfl) (by kernel_rfl) ?_
    | refine Still.ofR rfl rfl rfl (by kernel_rfl) rfl (fun K hK => ?_)
    | refine DrG.takeW rfl rfl rfl rfl rfl (by kernel_rfl) rfl (fun K hK => ?_)
    | refine DrG.skipW rfl rfl rfl rfl rfl (by kernel_rfl) rfl ?_
    | refine DrG.oneW rfl rfl rfl rfl (by kernel_rfl) (by kernel_rfl) (by kernel_rfl) (fun K hK => ?_)
    | refine DrG.oneS rfl rfl rfl rfl rfl (by kernel_rfl) (by kernel_rfl) (by kernel_rfl) (by simp only [dOk]; omega) (fun K hK => ?_)
    | refine DrG.oneU rfl rfl rfl rfl (by kernel_rfl) (by kernel_rfl) (by kernel_rfl) (by simp only [dOk]; omega) (fun K hK => ?_)
    | refine Still.ofGW rfl rfl rfl rfl (by kernel_rfl) rfl (fun K hK => ?_)
    | refine Still.ofGS rfl rfl rfl rfl (by kernel_rfl) rfl
    | refine calP_ret rfl rfl rfl e1 ?_
    | refine calP_lent rfl rfl e2 rfl ?_
    | refine calP_lent rfl rfl e3 rfl ?_
    | refine calP_ret rfl rfl rfl e4 ?_
    | refine calP_lent rfl rfl e5 rfl ?_
    | refine calP_lent rfl rfl e6 rfl ?_
    | refine PW.seq (fun K hK => ?_)
    | refine PW.ret ?_
    | refine PW.skip ?_
    | refine PW.exit ?_
    | refine PW.block ?_
    | refine PW.condT rfl ?_
    | refine PW.condF rfl ?_
    | (refine PW.condD rfl (fun hc => ?_) (fun hc => ?_) <;> first | (exfalso; omega) | skip)
    | (refine PW.condN rfl (fun hc => ?_) (fun hc => ?_) <;> first | (exfalso; omega) | skip)
    | refine PW.cond rfl (fun hc => ?_) (fun hc => ?_)
    | refine PW.regQ [] ?_
    | refine PW.sdrawG kt_10 sc_10 [] hmix (by kernel_rfl) (fun K hK => ?_)
    | refine PW.drawG sc_10 [] hmix (by kernel_rfl) (fun K hK => ?_)
    | refine PW.label ?_
    | omega
    | (split <;> first | contradiction | skip)
  refine PW.loopN [4, 7, 8, 11, 90, 91, 92] (fun i : Nat => ⟨[(4, .sh (.list (bs.map boolc))), (7, .sh (.ptr 1 0)), (8, .sh (.int .i64 ae)), (11, .sh (.int .i64 (sumL ((gainsL bs).take i)))), (90, .sh (.list ((gainsL bs).map fun x => [.int .i64 x]))), (91, .sh (.int .i64 bs.length)), (92, .sh (.int .i64 (i : Int)))], [bx, some [.sh (.int .i64 x), .sh (.int .i64 y)]]⟩) (fun i => i ≤ bs.length) (fun i => bs.length - i) 0 ?_ (Nat.zero_le _) (fun i hi => ?_)
  · simp only [push_cast, ↓reduceIte, Nat.reduceAdd, Nat.reduceSub, Nat.reduceMul, Nat.reduceEqDiff, Nat.reduceLT, Nat.reduceLeDiff, Int.reduceToNat, reduceCtorEq, Int.reduceEq, Int.reduceLT, Int.reduceLE, Int.reduceAdd, Int.reduceSub, Int.reduceMul, Int.reduceNeg, MV.top, kt_10, ti1, ti2, ti3, ti4, ti22, ti23, ti25, ti30, ti32, ti69, hgl, List.length_map]
    rfl
  clear e1 e2 e3 e4 e5 e6
  by_cases hlt : i < bs.length
  · have hlg : i < (gainsL bs).length := by omega
    have hge := ints_get hlg
    have hlt2 : (i : Int) < bs.length := by omega
    have hs1 := sumL_take hlg
    have hb1 := hsb i (by omega)
    have hb2 := hsb (i + 1) (by omega)
    rw [hs1] at hb2
    have hwi := wrap_nat (i := i) (by omega)
    have hw2 : IntKind.i64.wrap (sumL ((gainsL bs).take i) + (gainsL bs)[i]) = sumL ((gainsL bs).take i) + (gainsL bs)[i] := wrap_id (by omega) (by omega)
    generalize (gainsL bs)[i] = g at *
    clear hae
    repeat' first
      | exact True.intro
      | refine runQ_step (fun K hK => ?_)
      | refine runQ_end ?_
      | refine PW.sregN kt_10 [] (fun K hK => ?_)
      | simp only [push_cast, ↓reduceIte, Nat.reduceAdd, Nat.reduceSub, Nat.reduceMul, Nat.reduceEqDiff, Nat.reduceLT, Nat.reduceLeDiff, Int.reduceToNat, reduceCtorEq, Int.reduceEq, Int.reduceLT, Int.reduceLE, Int.reduceAdd, Int.reduceSub, Int.reduceMul, Int.reduceNeg, MV.top, kt_10, ti1, ti2, ti3, ti4, ti22, ti23, ti25, ti30, ti32, ti69, eqt30, hlt2, hge, hgl, hwi, hw2, Int.toNat_natCast, List.length_map]
      | refine And.intro ?_ ?_
      | (refine hK _ ?_; clear hK K)
      | (refine hK _ ?_ ?_ <;> clear hK K)
      | apply_assumption (exfalso := false) (symm := false) only [*]
      | refine runQ_gC rfl (fun K hK => ?_)
      | refine runQ_gS rfl rfl ?_
      | refine runQ_gU rfl rfl ?_
      | (refine runQ_gT rfl (fun hc K hK => ?_) (fun hc => ?_) <;> first | (exfalso; omega) | skip)
      | (refine runQ_gF rfl (fun hc K hK => ?_) (fun hc => ?_) <;> first | (exfalso; omega) | skip)
      | refine runQ_guard rfl (fun hc K hK => ?_) (fun hc => ?_)
      | refine DrG.take rfl rfl rfl (by kernel_rfl) rfl (fun K hK => ?_)
      | refine DrG.one rfl rfl (by kernel_rfl) (by kernel_rfl) (by kernel_rfl) (fun K hK => ?_)
      | refine DrG.fin rfl (by kernel_rfl) (by kernel_rfl) ?_
      | refine Still.ofR rfl rfl rfl (by kernel_rfl) rfl (fun K hK => ?_)
      | refine DrG.takeW rfl rfl rfl rfl rfl (by kernel_rfl) rfl (fun K hK => ?_)
      | refine DrG.skipW rfl rfl rfl rfl rfl (by kernel_rfl) rfl ?_
      | refine DrG.oneW rfl rfl rfl rfl (by kernel_rfl) (by kernel_rfl) (by kernel_rfl) (fun K hK => ?_)
      | refine DrG.oneS rfl rfl rfl rfl rfl (by kernel_rfl) (by kernel_rfl) (by kernel_rfl) (by simp only [dOk]; omega) (fun K hK => ?_)
      | refine DrG.oneU rfl rfl rfl rfl (by kernel_rfl) (by kernel_rfl) (by kernel_rfl) (by simp only [dOk]; omega) (fun K hK => ?_)
      | refine Still.ofGW rfl rfl rfl rfl (by kernel_rfl) rfl (fun K hK => ?_)
      | refine Still.ofGS rfl rfl rfl rfl (by kernel_rfl) rfl
      | refine PW.seq (fun K hK => ?_)
      | refine PW.ret ?_
      | refine PW.skip ?_
      | refine PW.exit ?_
      | refine PW.block ?_
      | refine PW.condT rfl ?_
      | refine PW.condF rfl ?_
      | (refine PW.condD rfl (fun hc => ?_) (fun hc => ?_) <;> first | (exfalso; omega) | skip)
      | (refine PW.condN rfl (fun hc => ?_) (fun hc => ?_) <;> first | (exfalso; omega) | skip)
      | refine PW.cond rfl (fun hc => ?_) (fun hc => ?_)
      | refine PW.regQ [] ?_
      | refine PW.sdrawG kt_10 sc_10 [] hmix (by kernel_rfl) (fun K hK => ?_)
      | refine PW.drawG sc_10 [] hmix (by kernel_rfl) (fun K hK => ?_)
      | refine PW.label ?_
      | omega
      | (split <;> first | contradiction | skip)
    all_goals exact ⟨i + 1, by rw [hs1]; rfl, by omega, by omega⟩
  · have hlt2 : ¬ (i : Int) < bs.length := by omega
    have : (gainsL bs).take i = gainsL bs := List.take_of_length_le (by omega)
    rw [this]
    clear hsb
    rcases hae with ⟨hc, rfl, rfl, rfl⟩ | ⟨hc, rfl, e8⟩
    · skip
      repeat' first
        | exact True.intro
        | refine runQ_step (fun K hK => ?_)
        | refine runQ_end ?_
        | refine PW.sregN kt_10 [] (fun K hK => ?_)
        | simp only [push_cast, ↓reduceIte, Nat.reduceAdd, Nat.reduceSub, Nat.reduceMul, Nat.reduceEqDiff, Nat.reduceLT, Nat.reduceLeDiff, Int.reduceToNat, reduceCtorEq, Int.reduceEq, Int.reduceLT, Int.reduceLE, Int.reduceAdd, Int.reduceSub, Int.reduceMul, Int.reduceNeg, MV.top, kt_10, ti1, ti2, ti3, ti4, ti22, ti23, ti25, ti30, ti32, ti69, eqt30, hlt2, hc, List.length_map]
        | refine And.intro ?_ ?_
        | (refine hK _ ?_; clear hK K)
        | (refine hK _ ?_ ?_ <;> clear hK K)
        | apply_assumption (exfalso := false) (symm := false) only [*]
        | refine runQ_gC rfl (fun K hK => ?_)
        | refine runQ_gS rfl rfl ?_
        | refine runQ_gU rfl rfl ?_
        | (refine runQ_gT rfl (fun hc K hK => ?_) (fun hc => ?_) <;> first | (exfalso; omega) | skip)
        | (refine runQ_gF rfl (fun hc K hK => ?_) (fun hc => ?_) <;> first | (exfalso; omega) | skip)
        | refine runQ_guard rfl (fun hc K hK => ?_) (fun hc => ?_)
        | refine DrG.take rfl rfl rfl (by kernel_rfl) rfl (fun K hK => ?_)
        | refine DrG.one rfl rfl (by kernel_rfl) (by kernel_rfl) (by kernel_rfl) (fun K hK => ?_)
        | refine DrG.fin rfl (by kernel_rfl) (by kernel_rfl) ?_
        | refine Still.ofR rfl rfl rfl (by kernel_rfl) rfl (fun K hK => ?_)
        | refine DrG.takeW rfl rfl rfl rfl rfl (by kernel_rfl) rfl (fun K hK => ?_)
        | refine DrG.skipW rfl rfl rfl rfl rfl (by kernel_rfl) rfl ?_
        | refine DrG.oneW rfl rfl rfl rfl (by kernel_rfl) (by kernel_rfl) (by kernel_rfl) (fun K hK => ?_)
        | refine DrG.oneS rfl rfl rfl rfl rfl (by kernel_rfl) (by kernel_rfl) (by kernel_rfl) (by simp only [dOk]; omega) (fun K hK => ?_)
        | refine DrG.oneU rfl rfl rfl rfl (by kernel_rfl) (by kernel_rfl) (by kernel_rfl) (by simp only [dOk]; omega) (fun K hK => ?_)
        | refine Still.ofGW rfl rfl rfl rfl (by kernel_rfl) rfl (fun K hK => ?_)
        | refine Still.ofGS rfl rfl rfl rfl (by kernel_rfl) rfl
        | refine calP_lent rfl rfl e7 rfl ?_
        | refine calP_lent rfl rfl ed rfl ?_
        | refine PW.seq (fun K hK => ?_)
        | refine PW.ret ?_
        | refine PW.skip ?_
        | refine PW.exit ?_
        | refine PW.block ?_
        | refine PW.condT rfl ?_
        | refine PW.condF rfl ?_
        | (refine PW.condD rfl (fun hc => ?_) (fun hc => ?_) <;> first | (exfalso; omega) | skip)
        | (refine PW.condN rfl (fun hc => ?_) (fun hc => ?_) <;> first | (exfalso; omega) | skip)
        | refine PW.cond rfl (fun hc => ?_) (fun hc => ?_)
        | refine PW.regQ [] ?_
        | refine PW.sdrawG kt_10 sc_10 [] hmix (by kernel_rfl) (fun K hK => ?_)
        | refine PW.drawG sc_10 [] hmix (by kernel_rfl) (fun K hK => ?_)
        | refine PW.label ?_
        | omega
        | (split <;> first | contradiction | skip)
    · skip
      repeat' first
        | exact True.intro
        | refine runQ_step (fun K hK => ?_)
        | refine runQ_end ?_
        | refine PW.sregN kt_10 [] (fun K hK => ?_)
        | simp only [push_cast, ↓reduceIte, Nat.reduceAdd, Nat.reduceSub, Nat.reduceMul, Nat.reduceEqDiff, Nat.reduceLT, Nat.reduceLeDiff, Int.reduceToNat, reduceCtorEq, Int.reduceEq, Int.reduceLT, Int.reduceLE, Int.reduceAdd, Int.reduceSub, Int.reduceMul, Int.reduceNeg, MV.top, kt_10, ti1, ti2, ti3, ti4, ti22, ti23, ti25, ti30, ti32, ti69, eqt30, hlt2, hc, hw1, List.length_map]
        | refine And.intro ?_ ?_
        | (refine hK _ ?_; clear hK K)
        | (refine hK _ ?_ ?_ <;> clear hK K)
        | apply_assumption (exfalso := false) (symm := false) only [*]
        | refine runQ_gC rfl (fun K hK => ?_)
        | refine runQ_gS rfl rfl ?_
        | refine runQ_gU rfl rfl ?_
        | (refine runQ_gT rfl (fun hc K hK => ?_) (fun hc => ?_) <;> first | (exfalso; omega) | skip)
        | (refine runQ_gF rfl (fun hc K hK => ?_) (fun hc => ?_) <;> first | (exfalso; omega) | skip)
        | refine runQ_guard rfl (fun hc K hK => ?_) (fun hc => ?_)
        | refine DrG.take rfl rfl rfl (by kernel_rfl) rfl (fun K hK => ?_)
        | refine DrG.one rfl rfl (by kernel_rfl) (by kernel_rfl) (by kernel_rfl) (fun K hK => ?_)
        | refine DrG.fin rfl (by kernel_rfl) (by kernel_rfl) ?_
        | refine Still.ofR rfl rfl rfl (by kernel_rfl) rfl (fun K hK => ?_)
        | refine DrG.takeW rfl rfl rfl rfl rfl (by kernel_rfl) rfl (fun K hK => ?_)
        | refine DrG.skipW rfl rfl rfl rfl rfl (by kernel_rfl) rfl ?_
        | refine DrG.oneW rfl rfl rfl rfl (by kernel_rfl) (by kernel_rfl) (by kernel_rfl) (fun K hK => ?_)
        | refine DrG.oneS rfl rfl rfl rfl rfl (by kernel_rfl) (by kernel_rfl) (by kernel_rfl) (by simp only [dOk]; omega) (fun K hK => ?_)
        | refine DrG.oneU rfl rfl rfl rfl (by kernel_rfl) (by kernel_rfl) (by kernel_rfl) (by simp only [dOk]; omega) (fun K hK => ?_)
        | refine Still.ofGW rfl rfl rfl rfl (by kernel_rfl) rfl (fun K hK => ?_)
        | refine Still.ofGS rfl rfl rfl rfl (by kernel_rfl) rfl
        | refine calP_lent rfl rfl e7 rfl ?_
        | refine calP_lent rfl rfl e8 rfl ?_
        | refine calP_lent rfl rfl ed rfl ?_
        | refine PW.seq (fun K hK => ?_)
        | refine PW.ret ?_
        | refine PW.skip ?_
        | refine PW.exit ?_
        | refine PW.block ?_
        | refine PW.condT rfl ?_
        | refine PW.condF rfl ?_
        | (refine PW.condD rfl (fun hc => ?_) (fun hc => ?_) <;> first | (exfalso; omega) | skip)
        | (refine PW.condN rfl (fun hc => ?_) (fun hc => ?_) <;> first | (exfalso; omega) | skip)
        | refine PW.cond rfl (fun hc => ?_) (fun hc => ?_)
        | refine PW.regQ [] ?_
        | refine PW.sdrawG kt_10 sc_10 [] hmix (by kernel_rfl) (fun K hK => ?_)
        | refine PW.drawG sc_10 [] hmix (by kernel_rfl) (fun K hK => ?_)
        | refine PW.label ?_
        | omega
        | (split <;> first | contradiction | skip)
end Go.Pv

