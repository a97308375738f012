/- The law SampleStops. -/
import Derived.Test.YtoakchnegkmepaaF29
set_option linter.unusedSimpArgs false
set_option linter.unusedVariables false
set_option maxRecDepth 100000
set_option maxHeartbeats 2000000
namespace Go.Pv
open Go Go.Proofs
attribute [local irreducible] PW Dr DrS DrN DrG DrH Spec SpecB runQ opP calP gdP Still

theorem PW.shareS {P : Program} {nt : Nat} {st : St} {Q : PX → St → Prop} {c : Code} (s : Nat) (h : PW P nt c (st.retire (.slot s)) Q) : PW P nt c st Q := by
  unfold PW at *
  intro γ ω w a R hr hq
  obtain ⟨ω', h1, h2⟩ := hr.retire (.slot s)
  exact h γ ω' w a R h2 (fun e γ2 ω2 w2 st2 a2 g1 g2 g3 => hq e _ _ _ _ _ (h1.trans g1) g2 g3)

theorem rep_bools (n : Nat) : List.replicate n [MV.bool false] = (List.replicate n false).map boolc := by
  rw [List.map_replicate]; rfl
def rowsL (bss : List (List Bool)) : List (List MV) := bss.map fun bs => [.list (bs.map boolc)]
theorem rowsL_len (bss : List (List Bool)) : (rowsL bss).length = bss.length := by simp [rowsL]
theorem rowsL_set (bss : List (List Bool)) (j : Nat) (bs : List Bool) : (rowsL bss).set j [.list (bs.map boolc)] = rowsL (bss.set j bs) := by
  unfold rowsL; rw [List.map_set]

theorem stopAt_nn (f : Nat → Bool) : ∀ (m k : Nat), 0 ≤ stopAt f m k
  | 0, _ => by simp [stopAt]
  | m + 1, k => by
    unfold stopAt
    split
    · omega
    · exact stopAt_nn f m (k + 1)

/-- Plans for open orders. -/
def sc_11 : List (Nat × Sc) := [(8, .take 1 (.two 0 [1] (.two 2 [1] (.take 3 (.two 4 [] (.one 5 [] (.one 6 [] (.one 7 [] (.fin)))) (.one 5 [3, 1] (.one 4 [] (.one 6 [] (.one 7 [] (.fin))))))) (.one 5 [1] (.one 2 [1] (.take 3 (.one 4 [] (.one 6 [] (.one 7 [] (.fin)))))))) (.two 2 [1] (.take 3 (.two 0 [3, 1] (.two 4 [] (.one 5 [] (.one 6 [] (.one 7 [] (.fin)))) (.one 5 [3, 1] (.one 4 [] (.one 6 [] (.one 7 [] (.fin)))))) (.two 4 [] (.two 0 [] (.one 5 [] (.one 6 [] (.one 7 [] (.fin)))) (.one 5 [] (.one 0 [] (.one 6 [] (.one 7 [] (.fin)))))) (.one 5 [3, 1] (.two 0 [3, 1] (.one 4 [] (.one 6 [] (.one 7 [] (.fin)))) (.one 4 [] (.one 0 [] (.one 6 [] (.one 7 [] (.fin)))))))))) (.one 5 [1] (.two 0 [1] (.one 2 [1] (.take 3 (.one 4 [] (.one 6 [] (.one 7 [] (.fin)))))) (.one 2 [1] (.take 3 (.two 0 [3, 1] (.one 4 [] (.one 6 [] (.one 7 [] (.fin)))) (.one 4 [] (.one 0 [] (.one 6 [] (.one 7 [] (.fin)))))))))))))]
/-- What is read later. -/
def kt_11 : List (Nat × List Nat) := [(0, [0]), (1, [3, 13]), (2, [3, 4, 13, 22]), (3, [3, 4, 13, 15, 16, 22]), (4, [3, 4, 13, 15, 16, 17, 22]), (5, [3, 4, 13, 15, 16, 22]), (6, [3, 4, 13, 15, 16, 22]), (7, [3, 4, 13, 22, 30]), (8, [3, 4, 13, 22]), (9, [4, 5, 22]), (10, [4, 5, 6, 7, 22]), (11, [4, 5, 6, 7, 22]), (12, [4, 5, 6, 7, 8, 22]), (13, [4, 5, 6, 7, 22, 53]), (14, [4, 5, 6, 7, 8, 22]), (15, [4, 5, 6, 7, 22, 56]), (16, [4, 5, 6, 7, 8, 22]), (17, [4, 5, 6, 7, 8, 22, 66]), (18, [2]), (19, [6, 7, 9, 10]), (20, [6, 7, 9, 84]), (21, [2]), (22, [2])]
theorem SampleStops_spec (ls : List Int) : Spec Try.prog 11 [ints ls] [(none, .bool true)] := by
  have hnp := np_ints ls
  have ed := drawn_spec
  have er := fun B hB => @Range_spec B 0 ls 0 0 8 hB (by omega) (by omega) (by omega) (by omega) (by omega)
  have hr0 := rangeV_bd (ls := ls) (at_ := 0) (lo := 0) (hi := 8) (by omega) (by omega) (by omega)
  generalize rangeV ls 0 0 8 = m at er hr0
  obtain ⟨k, rfl⟩ : ∃ k : Nat, m = k := ⟨m.toNat, by omega⟩
  unfold ints at *
  refine spec_of0 (nt := 104) (rs := [.tmp 2]) Try.func11 rfl rfl rfl rfl (by simp) (by simp [np]) (by intro x hx; simp only [List.mem_cons, List.not_mem_nil, or_false] at hx; subst hx; exact hnp) ?_
  clear hnp
  refine PW.sregN kt_11 [] (fun K hK => ?_)
  repeat' first
    | exact True.intro
    | refine runQ_step (fun K hK => ?_)
    | refine runQ_end ?_
    | simp only [push_cast, ↓reduceIte, Nat.reduceAdd, Nat.reduceSub, Nat.reduceMul, Nat.reduceEqDiff, Nat.reduceLT, Nat.reduceLeDiff, Int.reduceToNat, reduceCtorEq, Int.reduceEq, Int.reduceLT, Int.reduceLE, Int.reduceAdd, Int.reduceSub, Int.reduceMul, Int.reduceNeg, MV.top, kt_11, ti1, ti2, ti3, ti4, ti5, ti6, ti22, ti23, ti25, ti30, ti32, ti69, ti80, ti83, ti86, eqt30, eqt83]
    | refine And.intro ?_ ?_
    | (refine hK _ ?_; clear hK K)
    | (refine hK _ ?_ ?_ <;> clear hK K)
    | apply_assumption (exfalso := false) (symm := false) only [*]
    | refine runQ_gC rfl (fun K hK => ?_)
    | refine runQ_gS rfl rfl ?_
    | refine runQ_gU rfl rfl ?_
    | (refine runQ_gT rfl (fun hc K hK => ?_) (fun hc => ?_) <;> first | (exfalso; omega) | skip)
    | (refine runQ_gF rfl (fun hc K hK => ?_) (fun hc => ?_) <;> first | (exfalso; omega) | skip)
    | refine runQ_guard rfl (fun hc K hK => ?_) (fun hc => ?_)
    | refine DrG.take rfl rfl rfl (by kernel_rfl) rfl (fun K hK => ?_)
    | refine DrG.one rfl rfl (by kernel_rfl) (by kernel_rfl) (by kernel_rfl) (fun K hK => ?_)
    | refine DrG.fin rfl (by kernel_rfl) (by kernel_rfl) ?_
    | refine Still.ofR rfl rfl rfl (by kernel_rfl) rfl (fun K hK => ?_)
    | refine DrG.alt rfl (by kernel_rfl) (by kernel_rfl) ?_
    | refine DrH.two rfl rfl (by kernel_rfl) (fun K hK => ?_) ?_
    | refine DrH.one rfl rfl (by kernel_rfl) (fun K hK => ?_)
    | refine PW.ret ?_
    | refine PW.skip ?_
    | refine PW.exit ?_
    | refine PW.block ?_
    | refine PW.condT rfl ?_
    | refine PW.condF rfl ?_
    | (refine PW.condD rfl (fun hc => ?_) (fun hc => ?_) <;> first | (exfalso; omega) | skip)
    | (refine PW.condN rfl (fun hc => ?_) (fun hc => ?_) <;> first | (exfalso; omega) | skip)
    | refine PW.cond rfl (fun hc => ?_) (fun hc => ?_)
    | refine PW.regQ [] ?_
    | refine PW.drawG sc_11 [] hmix (by kernel_rfl) (fun K hK => ?_)
    | refine PW.label ?_
    | omega
    | (split <;> first | contradiction | skip)
  refine PW.sregN kt_11 [] (fun K hK => ?_)
  repeat' first
    | exact True.intro
    | refine runQ_step (fun K hK => ?_)
    | refine runQ_end ?_
    | simp only [push_cast, ↓reduceIte, Nat.reduceAdd, Nat.reduceSub, Nat.reduceMul, Nat.reduceEqDiff, Nat.reduceLT, Nat.reduceLeDiff, Int.reduceToNat, reduceCtorEq, Int.reduceEq, Int.reduceLT, Int.reduceLE, Int.reduceAdd, Int.reduceSub, Int.reduceMul, Int.reduceNeg, MV.top, kt_11, ti1, ti2, ti3, ti4, ti5, ti6, ti22, ti23, ti25, ti30, ti32, ti69, ti80, ti83, ti86, eqt30, eqt83, strm]
    | refine And.intro ?_ ?_
    | (refine hK _ ?_; clear hK K)
    | (refine hK _ ?_ ?_ <;> clear hK K)
    | apply_assumption (exfalso := false) (symm := false) only [*]
    | refine runQ_gC rfl (fun K hK => ?_)
    | refine runQ_gS rfl rfl ?_
    | refine runQ_gU rfl rfl ?_
    | (refine runQ_gT rfl (fun hc K hK => ?_) (fun hc => ?_) <;> first | (exfalso; omega) | skip)
    | (refine runQ_gF rfl (fun hc K hK => ?_) (fun hc => ?_) <;> first | (exfalso; omega) | skip)
    | refine runQ_guard rfl (fun hc K hK => ?_) (fun hc => ?_)
    | refine DrG.take rfl rfl rfl (by kernel_rfl) rfl (fun K hK => ?_)
    | refine DrG.one rfl rfl (by kernel_rfl) (by kernel_rfl) (by kernel_rfl) (fun K hK => ?_)
    | refine DrG.fin rfl (by kernel_rfl) (by kernel_rfl) ?_
    | refine Still.ofR rfl rfl rfl (by kernel_rfl) rfl (fun K hK => ?_)
    | refine DrG.alt rfl (by kernel_rfl) (by kernel_rfl) ?_
    | refine DrH.two rfl rfl (by kernel_rfl) (fun K hK => ?_) ?_
    | refine DrH.one rfl rfl (by kernel_rfl) (fun K hK => ?_)
    | refine PW.ret ?_
    | refine PW.skip ?_
    | refine PW.exit ?_
    | refine PW.block ?_
    | refine PW.condT rfl ?_
    | refine PW.condF rfl ?_
    | (refine PW.condD rfl (fun hc => ?_) (fun hc => ?_) <;> first | (exfalso; omega) | skip)
    | (refine PW.condN rfl (fun hc => ?_) (fun hc => ?_) <;> first | (exfalso; omega) | skip)
    | refine PW.cond rfl (fun hc => ?_) (fun hc => ?_)
    | refine PW.regQ [] ?_
    | refine PW.drawG sc_11 [] hmix (by kernel_rfl) (fun K hK => ?_)
    | refine PW.label ?_
    | omega
    | (split <;> first | contradiction | skip)
  refine PW.sregN kt_11 [] (fun K hK => ?_)
  repeat' first
    | exact True.intro
    | refine runQ_step (fun K hK => ?_)
    | refine runQ_end ?_
    | simp only [push_cast, ↓reduceIte, Nat.reduceAdd, Nat.reduceSub, Nat.reduceMul, Nat.reduceEqDiff, Nat.reduceLT, Nat.reduceLeDiff, Int.reduceToNat, reduceCtorEq, Int.reduceEq, Int.reduceLT, Int.reduceLE, Int.reduceAdd, Int.reduceSub, Int.reduceMul, Int.reduceNeg, MV.top, kt_11, ti1, ti2, ti3, ti4, ti5, ti6, ti22, ti23, ti25, ti30, ti32, ti69, ti80, ti83, ti86, eqt30, eqt83]
    | refine And.intro ?_ ?_
    | (refine hK _ ?_; clear hK K)
    | (refine hK _ ?_ ?_ <;> clear hK K)
    | apply_assumption (exfalso := false) (symm := false) only [*]
    | refine runQ_gC rfl (fun K hK => ?_)
    | refine runQ_gS rfl rfl ?_
    | refine runQ_gU rfl rfl ?_
    | (refine runQ_gT rfl (fun hc K hK => ?_) (fun hc => ?_) <;> first | (exfalso; omega) | skip)
    | (refine runQ_gF rfl (fun hc K hK => ?_) (fun hc => ?_) <;> first | (exfalso; omega) | skip)
    | refine runQ_guard rfl (fun hc K hK => ?_) (fun hc => ?_)
    | refine DrG.take rfl rfl rfl (by kernel_rfl) rfl (fun K hK => ?_)
    | refine DrG.one rfl rfl (by kernel_rfl) (by kernel_rfl) (by kernel_rfl) (fun K hK => ?_)
    | refine DrG.fin rfl (by kernel_rfl) (by kernel_rfl) ?_
    | refine Still.ofR rfl rfl rfl (by kernel_rfl) rfl (fun K hK => ?_)
    | refine DrG.alt rfl (by kernel_rfl) (by kernel_rfl) ?_
    | refine DrH.two rfl rfl (by kernel_rfl) (fun K hK => ?_) ?_
    | refine DrH.one rfl rfl (by kernel_rfl) (fun K hK => ?_)
    | refine PW.ret ?_
    | refine PW.skip ?_
    | refine PW.exit ?_
    | refine PW.block ?_
    | refine PW.condT rfl ?_
    | refine PW.condF rfl ?_
    | (refine PW.condD rfl (fun hc => ?_) (fun hc => ?_) <;> first | (exfalso; omega) | skip)
    | (refine PW.condN rfl (fun hc => ?_) (fun hc => ?_) <;> first | (exfalso; omega) | skip)
    | refine PW.cond rfl (fun hc => ?_) (fun hc => ?_)
    | refine PW.regQ [] ?_
    | refine PW.drawG sc_11 [] hmix (by kernel_rfl) (fun K hK => ?_)
    | refine PW.label ?_
    | omega
    | (split <;> first | contradiction | skip)
  refine PW.cutE [3, 4] (fun q : List (List Bool) × Int => ⟨[(3, .sh (.ptr 0 0)), (4, .own 1 (.list (rowsL q.1)))], [strm ls q.2]⟩) (fun q => q.1.length ≤ 8 ∧ (∀ x ∈ q.1, x.length ≤ 20) ∧ 0 ≤ q.2 ∧ q.2 ≤ 1000) ?_ (fun q hq => ?_)
  · skip
    repeat' first
      | exact True.intro
      | refine runQ_step (fun K hK => ?_)
      | refine runQ_end ?_
      | refine PW.sregN kt_11 [] (fun K hK => ?_)
      | simp only [push_cast, ↓reduceIte, Nat.reduceAdd, Nat.reduceSub, Nat.reduceMul, Nat.reduceEqDiff, Nat.reduceLT, Nat.reduceLeDiff, Int.reduceToNat, reduceCtorEq, Int.reduceEq, Int.reduceLT, Int.reduceLE, Int.reduceAdd, Int.reduceSub, Int.reduceMul, Int.reduceNeg, MV.top, kt_11, ti1, ti2, ti3, ti4, ti5, ti6, ti22, ti23, ti25, ti30, ti32, ti69, ti80, ti83, ti86, eqt30, eqt83, strm]
      | refine And.intro ?_ ?_
      | (refine hK _ ?_; clear hK K)
      | (refine hK _ ?_ ?_ <;> clear hK K)
      | apply_assumption (exfalso := false) (symm := false) only [*]
      | refine runQ_gC rfl (fun K hK => ?_)
      | refine runQ_gS rfl rfl ?_
      | refine runQ_gU rfl rfl ?_
      | (refine runQ_gT rfl (fun hc K hK => ?_) (fun hc => ?_) <;> first | (exfalso; omega) | skip)
      | (refine runQ_gF rfl (fun hc K hK => ?_) (fun hc => ?_) <;> first | (exfalso; omega) | skip)
      | refine runQ_guard rfl (fun hc K hK => ?_) (fun hc => ?_)
      | refine DrG.take rfl rfl rfl (by kernel_rfl) rfl (fun K hK => ?_)
      | refine DrG.one rfl rfl (by kernel_rfl) (by kernel_rfl) (by kernel_rfl) (fun K hK => ?_)
      | refine DrG.fin rfl (by kernel_rfl) (by kernel_rfl) ?_
      | refine Still.ofR rfl rfl rfl (by kernel_rfl) rfl (fun K hK => ?_)
      | refine DrG.alt rfl (by kernel_rfl) (by kernel_rfl) ?_
      | refine DrH.two rfl rfl (by kernel_rfl) (fun K hK => ?_) ?_
      | refine DrH.one rfl rfl (by kernel_rfl) (fun K hK => ?_)
      | refine calP_box rfl rfl (er _ rfl) ?_
      | refine PW.seq (fun K hK => ?_)
      | refine PW.ret ?_
      | refine PW.skip ?_
      | refine PW.exit ?_
      | refine PW.block ?_
      | refine PW.condT rfl ?_
      | refine PW.condF rfl ?_
      | (refine PW.condD rfl (fun hc => ?_) (fun hc => ?_) <;> first | (exfalso; omega) | skip)
      | (refine PW.condN rfl (fun hc => ?_) (fun hc => ?_) <;> first | (exfalso; omega) | skip)
      | refine PW.cond rfl (fun hc => ?_) (fun hc => ?_)
      | refine PW.regQ [] ?_
      | refine PW.sdrawG kt_11 sc_11 [] hmix (by kernel_rfl) (fun K hK => ?_)
      | refine PW.drawG sc_11 [] hmix (by kernel_rfl) (fun K hK => ?_)
      | refine PW.label ?_
      | omega
      | (split <;> first | contradiction | skip)
    refine PW.loopN [3, 4, 15, 16] (fun s : List (List Bool) × Int => ⟨[(3, .sh (.ptr 0 0)), (4, .own 1 (.list (rowsL s.1))), (15, .sh (.int .i64 (k : Int))), (16, .sh (.int .i64 (s.1.length : Int)))], [strm ls s.2]⟩) (fun s => s.1.length ≤ k ∧ (∀ x ∈ s.1, x.length ≤ 20) ∧ 0 ≤ s.2 ∧ s.2 ≤ 1 + 41 * (s.1.length : Int)) (fun s => k - s.1.length) ([], 1) ?_ ⟨Nat.zero_le _, by simp, by simp, by simp⟩ (fun s hs => ?_)
    · simp only [push_cast, ↓reduceIte, Nat.reduceAdd, Nat.reduceSub, Nat.reduceMul, Nat.reduceEqDiff, Nat.reduceLT, Nat.reduceLeDiff, Int.reduceToNat, reduceCtorEq, Int.reduceEq, Int.reduceLT, Int.reduceLE, Int.reduceAdd, Int.reduceSub, Int.reduceMul, Int.reduceNeg, MV.top, kt_11, ti1, ti2, ti3, ti4, ti5, ti6, ti22, ti23, ti25, ti30, ti32, ti69, ti80, ti83, ti86, strm, rowsL]
    obtain ⟨bss, a⟩ := s
    obtain ⟨h1, h2, h3, h4⟩ := hs
    simp only at h1 h2 h3 h4 ⊢
    by_cases hlt : bss.length < k
    · have hlt2 : (bss.length : Int) < k := by omega
      obtain ⟨bs, a2, hbl, ha, e1⟩ := Relevant_spec ls a h3 (by omega)
      have hwi := wrap_nat (i := bss.length) (by omega)
      have hle : bss.length + 1 ≤ 1000000000 := by omega
      have hmp : rowsL bss ++ [[.list (bs.map boolc)]] = rowsL (bss ++ [bs]) := by unfold rowsL; rw [List.map_append]; rfl
      unfold bools at e1
      repeat' first
        | exact True.intro
        | refine runQ_step (fun K hK => ?_)
        | refine runQ_end ?_
        | refine PW.sregN kt_11 [] (fun K hK => ?_)
        | simp only [push_cast, ↓reduceIte, Nat.reduceAdd, Nat.reduceSub, Nat.reduceMul, Nat.reduceEqDiff, Nat.reduceLT, Nat.reduceLeDiff, Int.reduceToNat, reduceCtorEq, Int.reduceEq, Int.reduceLT, Int.reduceLE, Int.reduceAdd, Int.reduceSub, Int.reduceMul, Int.reduceNeg, MV.top, kt_11, ti1, ti2, ti3, ti4, ti5, ti6, ti22, ti23, ti25, ti30, ti32, ti69, ti80, ti83, ti86, eqt30, eqt83, strm, hlt2, hwi, hmp, hle, rowsL_len]
        | refine And.intro ?_ ?_
        | (refine hK _ ?_; clear hK K)
        | (refine hK _ ?_ ?_ <;> clear hK K)
        | apply_assumption (exfalso := false) (symm := false) only [*]
        | refine runQ_gC rfl (fun K hK => ?_)
        | refine runQ_gS rfl rfl ?_
        | refine runQ_gU rfl rfl ?_
        | (refine runQ_gT rfl (fun hc K hK => ?_) (fun hc => ?_) <;> first | (exfalso; omega) | skip)
        | (refine runQ_gF rfl (fun hc K hK => ?_) (fun hc => ?_) <;> first | (exfalso; omega) | skip)
        | refine runQ_guard rfl (fun hc K hK => ?_) (fun hc => ?_)
        | refine DrG.take rfl rfl rfl (by kernel_rfl) rfl (fun K hK => ?_)
        | refine DrG.one rfl rfl (by kernel_rfl) (by kernel_rfl) (by kernel_rfl) (fun K hK => ?_)
        | refine DrG.fin rfl (by kernel_rfl) (by kernel_rfl) ?_
        | refine Still.ofR rfl rfl rfl (by kernel_rfl) rfl (fun K hK => ?_)
        | refine DrG.alt rfl (by kernel_rfl) (by kernel_rfl) ?_
        | refine DrH.two rfl rfl (by kernel_rfl) (fun K hK => ?_) ?_
        | refine DrH.one rfl rfl (by kernel_rfl) (fun K hK => ?_)
        | refine calP_box rfl rfl (e1 _ 0 rfl) ?_
        | refine PW.seq (fun K hK => ?_)
        | refine PW.ret ?_
        | refine PW.skip ?_
        | refine PW.exit ?_
        | refine PW.block ?_
        | refine PW.condT rfl ?_
        | refine PW.condF rfl ?_
        | (refine PW.condD rfl (fun hc => ?_) (fun hc => ?_) <;> first | (exfalso; omega) | skip)
        | (refine PW.condN rfl (fun hc => ?_) (fun hc => ?_) <;> first | (exfalso; omega) | skip)
        | refine PW.cond rfl (fun hc => ?_) (fun hc => ?_)
        | refine PW.regQ [] ?_
        | refine PW.sdrawG kt_11 sc_11 [] hmix (by kernel_rfl) (fun K hK => ?_)
        | refine PW.drawG sc_11 [] hmix (by kernel_rfl) (fun K hK => ?_)
        | refine PW.label ?_
        | omega
        | (split <;> first | contradiction | skip)
      all_goals exact ⟨(bss ++ [bs], a2), by simp only [List.length_append, List.length_singleton]; rfl, ⟨by simp; omega, by intro x hx; rcases List.mem_append.1 hx with g | g; exact h2 x g; rw [List.mem_singleton.1 g]; exact hbl, by simp only; omega, by simp only [List.length_append, List.length_singleton]; omega⟩, by simp; omega⟩
    · have hlt2 : ¬ (bss.length : Int) < k := by omega
      repeat' first
        | exact True.intro
        | refine runQ_step (fun K hK => ?_)
        | refine runQ_end ?_
        | refine PW.sregN kt_11 [] (fun K hK => ?_)
        | simp only [push_cast, ↓reduceIte, Nat.reduceAdd, Nat.reduceSub, Nat.reduceMul, Nat.reduceEqDiff, Nat.reduceLT, Nat.reduceLeDiff, Int.reduceToNat, reduceCtorEq, Int.reduceEq, Int.reduceLT, Int.reduceLE, Int.reduceAdd, Int.reduceSub, Int.reduceMul, Int.reduceNeg, MV.top, kt_11, ti1, ti2, ti3, ti4, ti5, ti6, ti22, ti23, ti25, ti30, ti32, ti69, ti80, ti83, ti86, eqt30, eqt83, strm, hlt2]
        | refine And.intro ?_ ?_
        | (refine hK _ ?_; clear hK K)
        | (refine hK _ ?_ ?_ <;> clear hK K)
        | apply_assumption (exfalso := false) (symm := false) only [*]
        | refine runQ_gC rfl (fun K hK => ?_)
        | refine runQ_gS rfl rfl ?_
        | refine runQ_gU rfl rfl ?_
        | (refine runQ_gT rfl (fun hc K hK => ?_) (fun hc => ?_) <;> first | (exfalso; omega) | skip)
        | (refine runQ_gF rfl (fun hc K hK => ?_) (fun hc => ?_) <;> first | (exfalso; omega) | skip)
        | refine runQ_guard rfl (fun hc K hK => ?_) (fun hc => ?_)
        | refine DrG.take rfl rfl rfl (by kernel_rfl) rfl (fun K hK => ?_)
        | refine DrG.one rfl rfl (by kernel_rfl) (by kernel_rfl) (by kernel_rfl) (fun K hK => ?_)
        | refine DrG.fin rfl (by kernel_rfl) (by kernel_rfl) ?_
        | refine Still.ofR rfl rfl rfl (by kernel_rfl) rfl (fun K hK => ?_)
        | refine DrG.alt rfl (by kernel_rfl) (by kernel_rfl) ?_
        | refine DrH.two rfl rfl (by kernel_rfl) (fun K hK => ?_) ?_
        | refine DrH.one rfl rfl (by kernel_rfl) (fun K hK => ?_)
        | refine PW.seq (fun K hK => ?_)
        | refine PW.ret ?_
        | refine PW.skip ?_
        | refine PW.exit ?_
        | refine PW.block ?_
        | refine PW.condT rfl ?_
        | refine PW.condF rfl ?_
        | (refine PW.condD rfl (fun hc => ?_) (fun hc => ?_) <;> first | (exfalso; omega) | skip)
        | (refine PW.condN rfl (fun hc => ?_) (fun hc => ?_) <;> first | (exfalso; omega) | skip)
        | refine PW.cond rfl (fun hc => ?_) (fun hc => ?_)
        | refine PW.regQ [] ?_
        | refine PW.sdrawG kt_11 sc_11 [] hmix (by kernel_rfl) (fun K hK => ?_)
        | refine PW.drawG sc_11 [] hmix (by kernel_rfl) (fun K hK => ?_)
        | refine PW.label ?_
        | omega
        | (split <;> first | contradiction | skip)
      all_goals exact ⟨(bss, a), rfl, by simp only; omega, h2, h3, by simp only; omega⟩
  obtain ⟨bss, a⟩ := q
  obtain ⟨h1, h2, h3, h4⟩ := hq
  simp only at h1 h2 h3 h4 ⊢
  clear er hr0
  have e2 := fun B hB => @Flip_spec B 0 ls a 40 hB (by omega) (by omega)
  have e3 := fun B hB => @Next_spec B 0 ls (a + 1) (bss.length : Int) hB (by omega) (by omega)
  refine PW.cutE [3, 4] (fun q : List (List Bool) × Int => ⟨[(3, .sh (.ptr 0 0)), (4, .own 1 (.list (rowsL q.1)))], [strm ls q.2]⟩) (fun q => q.1.length ≤ 8 ∧ (∀ x ∈ q.1, x.length ≤ 20 ∨ x.length = 2001) ∧ 0 ≤ q.2 ∧ q.2 ≤ 2000) ?_ (fun q hq => ?_)
  · by_cases hz : bss.length = 0
    · have hpos : ¬ (0 : Int) < bss.length := by omega
      repeat' first
        | exact True.intro
        | refine runQ_step (fun K hK => ?_)
        | refine runQ_end ?_
        | refine PW.sregN kt_11 [] (fun K hK => ?_)
        | simp only [push_cast, ↓reduceIte, Nat.reduceAdd, Nat.reduceSub, Nat.reduceMul, Nat.reduceEqDiff, Nat.reduceLT, Nat.reduceLeDiff, Int.reduceToNat, reduceCtorEq, Int.reduceEq, Int.reduceLT, Int.reduceLE, Int.reduceAdd, Int.reduceSub, Int.reduceMul, Int.reduceNeg, MV.top, kt_11, ti1, ti2, ti3, ti4, ti5, ti6, ti22, ti23, ti25, ti30, ti32, ti69, ti80, ti83, ti86, eqt30, eqt83, strm, hpos, rowsL_len]
        | refine And.intro ?_ ?_
        | (refine hK _ ?_; clear hK K)
        | (refine hK _ ?_ ?_ <;> clear hK K)
        | apply_assumption (exfalso := false) (symm := false) only [*]
        | refine runQ_gC rfl (fun K hK => ?_)
        | refine runQ_gS rfl rfl ?_
        | refine runQ_gU rfl rfl ?_
        | (refine runQ_gT rfl (fun hc K hK => ?_) (fun hc => ?_) <;> first | (exfalso; omega) | skip)
        | (refine runQ_gF rfl (fun hc K hK => ?_) (fun hc => ?_) <;> first | (exfalso; omega) | skip)
        | refine runQ_guard rfl (fun hc K hK => ?_) (fun hc => ?_)
        | refine DrG.take rfl rfl rfl (by kernel_rfl) rfl (fun K hK => ?_)
        | refine DrG.one rfl rfl (by kernel_rfl) (by kernel_rfl) (by kernel_rfl) (fun K hK => ?_)
        | refine DrG.fin rfl (by kernel_rfl) (by kernel_rfl) ?_
        | refine Still.ofR rfl rfl rfl (by kernel_rfl) rfl (fun K hK => ?_)
        | refine DrG.alt rfl (by kernel_rfl) (by kernel_rfl) ?_
        | refine DrH.two rfl rfl (by kernel_rfl) (fun K hK => ?_) ?_
        | refine DrH.one rfl rfl (by kernel_rfl) (fun K hK => ?_)
        | refine calP_box rfl rfl (e2 _ rfl) ?_
        | refine PW.seq (fun K hK => ?_)
        | refine PW.ret ?_
        | refine PW.skip ?_
        | refine PW.exit ?_
        | refine PW.block ?_
        | refine PW.condT rfl ?_
        | refine PW.condF rfl ?_
        | (refine PW.condD rfl (fun hc => ?_) (fun hc => ?_) <;> first | (exfalso; omega) | skip)
        | (refine PW.condN rfl (fun hc => ?_) (fun hc => ?_) <;> first | (exfalso; omega) | skip)
        | refine PW.cond rfl (fun hc => ?_) (fun hc => ?_)
        | refine PW.regQ [] ?_
        | refine PW.sdrawG kt_11 sc_11 [] hmix (by kernel_rfl) (fun K hK => ?_)
        | refine PW.drawG sc_11 [] hmix (by kernel_rfl) (fun K hK => ?_)
        | refine PW.label ?_
        | omega
        | (split <;> first | contradiction | skip)
      all_goals exact ⟨(bss, a), rfl, h1, fun x hx => .inl (h2 x hx), h3, by simp only; omega⟩
    · have hpos : (0 : Int) < bss.length := by omega
      have hj := nextV_range (ls := ls) (at_ := a + 1) (n := (bss.length : Int)) (by omega) (by omega)
      generalize nextV ls (a + 1) (bss.length : Int) = j at e3 hj
      obtain ⟨jn, rfl⟩ : ∃ jn : Nat, j = jn := ⟨j.toNat, by omega⟩
      have hjl : jn < bss.length := by omega
      have hjg : (rowsL bss)[jn]? = some [.list (bss[jn].map boolc)] := by simp [rowsL, hjl]
      have hset := rowsL_set bss jn (List.replicate 2001 false)
      have hrep : List.replicate 2001 [MV.bool false] = (List.replicate 2001 false).map boolc := rep_bools 2001
      generalize hR : List.replicate 2001 false = R at hset hrep
      have hRl : R.length = 2001 := by rw [← hR, List.length_replicate]
      repeat' first
        | exact True.intro
        | refine runQ_step (fun K hK => ?_)
        | refine runQ_end ?_
        | refine PW.sregN kt_11 [] (fun K hK => ?_)
        | simp only [push_cast, ↓reduceIte, Nat.reduceAdd, Nat.reduceSub, Nat.reduceMul, Nat.reduceEqDiff, Nat.reduceLT, Nat.reduceLeDiff, Int.reduceToNat, reduceCtorEq, Int.reduceEq, Int.reduceLT, Int.reduceLE, Int.reduceAdd, Int.reduceSub, Int.reduceMul, Int.reduceNeg, MV.top, kt_11, ti1, ti2, ti3, ti4, ti5, ti6, ti22, ti23, ti25, ti30, ti32, ti69, ti80, ti83, ti86, eqt30, eqt83, strm, hpos, rowsL_len, hjl, hjg, hset, hrep, Int.toNat_natCast]
        | refine And.intro ?_ ?_
        | (refine hK _ ?_; clear hK K)
        | (refine hK _ ?_ ?_ <;> clear hK K)
        | apply_assumption (exfalso := false) (symm := false) only [*]
        | refine runQ_gC rfl (fun K hK => ?_)
        | refine runQ_gS rfl rfl ?_
        | refine runQ_gU rfl rfl ?_
        | (refine runQ_gT rfl (fun hc K hK => ?_) (fun hc => ?_) <;> first | (exfalso; omega) | skip)
        | (refine runQ_gF rfl (fun hc K hK => ?_) (fun hc => ?_) <;> first | (exfalso; omega) | skip)
        | refine runQ_guard rfl (fun hc K hK => ?_) (fun hc => ?_)
        | refine DrG.take rfl rfl rfl (by kernel_rfl) rfl (fun K hK => ?_)
        | refine DrG.one rfl rfl (by kernel_rfl) (by kernel_rfl) (by kernel_rfl) (fun K hK => ?_)
        | refine DrG.fin rfl (by kernel_rfl) (by kernel_rfl) ?_
        | refine Still.ofR rfl rfl rfl (by kernel_rfl) rfl (fun K hK => ?_)
        | refine DrG.alt rfl (by kernel_rfl) (by kernel_rfl) ?_
        | refine DrH.two rfl rfl (by kernel_rfl) (fun K hK => ?_) ?_
        | refine DrH.one rfl rfl (by kernel_rfl) (fun K hK => ?_)
        | refine calP_box rfl rfl (e2 _ rfl) ?_
        | refine calP_box rfl rfl (e3 _ rfl) ?_
        | refine PW.seq (fun K hK => ?_)
        | refine PW.ret ?_
        | refine PW.skip ?_
        | refine PW.exit ?_
        | refine PW.block ?_
        | refine PW.condT rfl ?_
        | refine PW.condF rfl ?_
        | (refine PW.condD rfl (fun hc => ?_) (fun hc => ?_) <;> first | (exfalso; omega) | skip)
        | (refine PW.condN rfl (fun hc => ?_) (fun hc => ?_) <;> first | (exfalso; omega) | skip)
        | refine PW.cond rfl (fun hc => ?_) (fun hc => ?_)
        | refine PW.regQ [] ?_
        | refine PW.sdrawG kt_11 sc_11 [] hmix (by kernel_rfl) (fun K hK => ?_)
        | refine PW.drawG sc_11 [] hmix (by kernel_rfl) (fun K hK => ?_)
        | refine PW.label ?_
        | omega
        | (split <;> first | contradiction | skip)
      all_goals first
        | exact ⟨(bss.set jn R, _), rfl, by simpa using h1, fun x hx => by rcases List.mem_or_eq_of_mem_set hx with g | g; exact .inl (h2 x g); rw [g]; exact .inr hRl, by simp only; omega, by simp only; omega⟩
        | exact ⟨(bss, _), rfl, h1, fun x hx => .inl (h2 x hx), by simp only; omega, by simp only; omega⟩
  clear e2 e3 h1 h2 h3 h4
  obtain ⟨bss, a⟩ := q
  obtain ⟨h1, h2, h3, h4⟩ := hq
  simp only at h1 h2 h3 h4 ⊢
  refine PW.shareS 4 ?_
  have hsh : St.retire ⟨[(3, .sh (.ptr 0 0)), (4, .own 1 (.list (rowsL bss)))], [strm ls a]⟩ (.slot 4) = ⟨[(3, .sh (.ptr 0 0)), (4, .sh (.list (rowsL bss)))], [strm ls a]⟩ := rfl
  rw [hsh]
  clear hsh
  have hp := pickV_mem (ls := ls) (at_ := a) (xs := [1, 1, 2, 3, 0, 2001]) (by simp) (by simp)
  simp only [List.mem_cons, List.not_mem_nil, or_false] at hp
  have e4 := fun B hB => @Pick_spec B 0 ls a [1, 1, 2, 3, 0, 2001] hB (by omega) (by omega) (by simp) (by simp)
  generalize pickV ls a [1, 1, 2, 3, 0, 2001] = run at e4 hp
  obtain ⟨n, d, e5⟩ := Share_spec ls (a + 1) (by omega) (by omega)
  unfold ints fracV at *
  refine PW.sregN kt_11 [] (fun K hK => ?_)
  repeat' first
    | exact True.intro
    | refine runQ_step (fun K hK => ?_)
    | refine runQ_end ?_
    | simp only [push_cast, ↓reduceIte, Nat.reduceAdd, Nat.reduceSub, Nat.reduceMul, Nat.reduceEqDiff, Nat.reduceLT, Nat.reduceLeDiff, Int.reduceToNat, reduceCtorEq, Int.reduceEq, Int.reduceLT, Int.reduceLE, Int.reduceAdd, Int.reduceSub, Int.reduceMul, Int.reduceNeg, MV.top, kt_11, ti1, ti2, ti3, ti4, ti5, ti6, ti22, ti23, ti25, ti30, ti32, ti69, ti80, ti83, ti86, eqt30, eqt83, strm]
    | refine And.intro ?_ ?_
    | (refine hK _ ?_; clear hK K)
    | (refine hK _ ?_ ?_ <;> clear hK K)
    | apply_assumption (exfalso := false) (symm := false) only [*]
    | refine runQ_gC rfl (fun K hK => ?_)
    | refine runQ_gS rfl rfl ?_
    | refine runQ_gU rfl rfl ?_
    | (refine runQ_gT rfl (fun hc K hK => ?_) (fun hc => ?_) <;> first | (exfalso; omega) | skip)
    | (refine runQ_gF rfl (fun hc K hK => ?_) (fun hc => ?_) <;> first | (exfalso; omega) | skip)
    | refine runQ_guard rfl (fun hc K hK => ?_) (fun hc => ?_)
    | refine DrG.take rfl rfl rfl (by kernel_rfl) rfl (fun K hK => ?_)
    | refine DrG.one rfl rfl (by kernel_rfl) (by kernel_rfl) (by kernel_rfl) (fun K hK => ?_)
    | refine DrG.fin rfl (by kernel_rfl) (by kernel_rfl) ?_
    | refine Still.ofR rfl rfl rfl (by kernel_rfl) rfl (fun K hK => ?_)
    | refine DrG.alt rfl (by kernel_rfl) (by kernel_rfl) ?_
    | refine DrH.two rfl rfl (by kernel_rfl) (fun K hK => ?_) ?_
    | refine DrH.one rfl rfl (by kernel_rfl) (fun K hK => ?_)
    | refine calP_box rfl rfl (e4 _ rfl) ?_
    | refine calP_box rfl rfl (e5 _ 0 rfl) ?_
    | refine PW.ret ?_
    | refine PW.skip ?_
    | refine PW.exit ?_
    | refine PW.block ?_
    | refine PW.condT rfl ?_
    | refine PW.condF rfl ?_
    | (refine PW.condD rfl (fun hc => ?_) (fun hc => ?_) <;> first | (exfalso; omega) | skip)
    | (refine PW.condN rfl (fun hc => ?_) (fun hc => ?_) <;> first | (exfalso; omega) | skip)
    | refine PW.cond rfl (fun hc => ?_) (fun hc => ?_)
    | refine PW.regQ [] ?_
    | refine PW.drawG sc_11 [] hmix (by kernel_rfl) (fun K hK => ?_)
    | refine PW.label ?_
    | omega
    | (split <;> first | contradiction | skip)
  clear e4 e5
  refine PW.freeze 1 5 rfl rfl rfl ?_
  simp only [push_cast, ↓reduceIte, Nat.reduceAdd, Nat.reduceSub, Nat.reduceMul, Nat.reduceEqDiff, Nat.reduceLT, Nat.reduceLeDiff, Int.reduceToNat, reduceCtorEq, Int.reduceEq, Int.reduceLT, Int.reduceLE, Int.reduceAdd, Int.reduceSub, Int.reduceMul, Int.reduceNeg, MV.top, kt_11, ti1, ti2, ti3, ti4, ti5, ti6, ti22, ti23, ti25, ti30, ti32, ti69, ti80, ti83, ti86, strm]
  generalize a + 1 + 1 = a3
  have e7 := ContainsFuncB_spec (f := 62) (cap := []) bigB bss (by omega) (fun x _ => Stops2_spec x)
  cases hany : bss.any bigB with
  | true =>
    rw [hany] at e7
    have e8 := Stops_big bss run n d (by omega) hany
    unfold rowsL rowsM ruleM bools at *
    repeat' first
      | exact True.intro
      | refine runQ_step (fun K hK => ?_)
      | refine runQ_end ?_
      | refine PW.sregN kt_11 [] (fun K hK => ?_)
      | simp only [push_cast, ↓reduceIte, Nat.reduceAdd, Nat.reduceSub, Nat.reduceMul, Nat.reduceEqDiff, Nat.reduceLT, Nat.reduceLeDiff, Int.reduceToNat, reduceCtorEq, Int.reduceEq, Int.reduceLT, Int.reduceLE, Int.reduceAdd, Int.reduceSub, Int.reduceMul, Int.reduceNeg, MV.top, kt_11, ti1, ti2, ti3, ti4, ti5, ti6, ti22, ti23, ti25, ti30, ti32, ti69, ti80, ti83, ti86, eqt30, eqt83]
      | refine And.intro ?_ ?_
      | (refine hK _ ?_; clear hK K)
      | (refine hK _ ?_ ?_ <;> clear hK K)
      | apply_assumption (exfalso := false) (symm := false) only [*]
      | refine runQ_gC rfl (fun K hK => ?_)
      | refine runQ_gS rfl rfl ?_
      | refine runQ_gU rfl rfl ?_
      | (refine runQ_gT rfl (fun hc K hK => ?_) (fun hc => ?_) <;> first | (exfalso; omega) | skip)
      | (refine runQ_gF rfl (fun hc K hK => ?_) (fun hc => ?_) <;> first | (exfalso; omega) | skip)
      | refine runQ_guard rfl (fun hc K hK => ?_) (fun hc => ?_)
      | refine DrG.take rfl rfl rfl (by kernel_rfl) rfl (fun K hK => ?_)
      | refine DrG.one rfl rfl (by kernel_rfl) (by kernel_rfl) (by kernel_rfl) (fun K hK => ?_)
      | refine DrG.fin rfl (by kernel_rfl) (by kernel_rfl) ?_
      | refine Still.ofR rfl rfl rfl (by kernel_rfl) rfl (fun K hK => ?_)
      | refine DrG.alt rfl (by kernel_rfl) (by kernel_rfl) ?_
      | refine DrH.two rfl rfl (by kernel_rfl) (fun K hK => ?_) ?_
      | refine DrH.one rfl rfl (by kernel_rfl) (fun K hK => ?_)
      | refine calP_lent rfl rfl e8 rfl ?_
      | refine calP_ret rfl rfl rfl e7 ?_
      | refine calP_lent rfl rfl ed rfl ?_
      | refine PW.seq (fun K hK => ?_)
      | refine PW.ret ?_
      | refine PW.skip ?_
      | refine PW.exit ?_
      | refine PW.block ?_
      | refine PW.condT rfl ?_
      | refine PW.condF rfl ?_
      | (refine PW.condD rfl (fun hc => ?_) (fun hc => ?_) <;> first | (exfalso; omega) | skip)
      | (refine PW.condN rfl (fun hc => ?_) (fun hc => ?_) <;> first | (exfalso; omega) | skip)
      | refine PW.cond rfl (fun hc => ?_) (fun hc => ?_)
      | refine PW.regQ [] ?_
      | refine PW.sdrawG kt_11 sc_11 [] hmix (by kernel_rfl) (fun K hK => ?_)
      | refine PW.drawG sc_11 [] hmix (by kernel_rfl) (fun K hK => ?_)
      | refine PW.label ?_
      | omega
      | (split <;> first | contradiction | skip)
  | false =>
    rw [hany] at e7
    have hb : ∀ x ∈ bss, x.length ≤ 2000 := fun x hx => by
      have := List.any_eq_false.1 hany x hx
      rcases h2 x hx with g | g
      · omega
      · simp [bigB] at this; omega
    have e6 := ShareFault_spec n d
    unfold fracV at e6
    by_cases q1 : run < 1
    · have e8 := Stops_bad bss run n d (by omega) hany (.inl (by unfold inV; exact decide_eq_false (by omega)))
      unfold rowsL rowsM ruleM bools at *
      repeat' first
        | exact True.intro
        | refine runQ_step (fun K hK => ?_)
        | refine runQ_end ?_
        | refine PW.sregN kt_11 [] (fun K hK => ?_)
        | simp only [push_cast, ↓reduceIte, Nat.reduceAdd, Nat.reduceSub, Nat.reduceMul, Nat.reduceEqDiff, Nat.reduceLT, Nat.reduceLeDiff, Int.reduceToNat, reduceCtorEq, Int.reduceEq, Int.reduceLT, Int.reduceLE, Int.reduceAdd, Int.reduceSub, Int.reduceMul, Int.reduceNeg, MV.top, kt_11, ti1, ti2, ti3, ti4, ti5, ti6, ti22, ti23, ti25, ti30, ti32, ti69, ti80, ti83, ti86, eqt30, eqt83, q1]
        | refine And.intro ?_ ?_
        | (refine hK _ ?_; clear hK K)
        | (refine hK _ ?_ ?_ <;> clear hK K)
        | apply_assumption (exfalso := false) (symm := false) only [*]
        | refine runQ_gC rfl (fun K hK => ?_)
        | refine runQ_gS rfl rfl ?_
        | refine runQ_gU rfl rfl ?_
        | (refine runQ_gT rfl (fun hc K hK => ?_) (fun hc => ?_) <;> first | (exfalso; omega) | skip)
        | (refine runQ_gF rfl (fun hc K hK => ?_) (fun hc => ?_) <;> first | (exfalso; omega) | skip)
        | refine runQ_guard rfl (fun hc K hK => ?_) (fun hc => ?_)
        | refine DrG.take rfl rfl rfl (by kernel_rfl) rfl (fun K hK => ?_)
        | refine DrG.one rfl rfl (by kernel_rfl) (by kernel_rfl) (by kernel_rfl) (fun K hK => ?_)
        | refine DrG.fin rfl (by kernel_rfl) (by kernel_rfl) ?_
        | refine Still.ofR rfl rfl rfl (by kernel_rfl) rfl (fun K hK => ?_)
        | refine DrG.alt rfl (by kernel_rfl) (by kernel_rfl) ?_
        | refine DrH.two rfl rfl (by kernel_rfl) (fun K hK => ?_) ?_
        | refine DrH.one rfl rfl (by kernel_rfl) (fun K hK => ?_)
        | refine calP_lent rfl rfl e8 rfl ?_
        | refine calP_ret rfl rfl rfl e7 ?_
        | refine calP_lent rfl rfl ed rfl ?_
        | refine PW.seq (fun K hK => ?_)
        | refine PW.ret ?_
        | refine PW.skip ?_
        | refine PW.exit ?_
        | refine PW.block ?_
        | refine PW.condT rfl ?_
        | refine PW.condF rfl ?_
        | (refine PW.condD rfl (fun hc => ?_) (fun hc => ?_) <;> first | (exfalso; omega) | skip)
        | (refine PW.condN rfl (fun hc => ?_) (fun hc => ?_) <;> first | (exfalso; omega) | skip)
        | refine PW.cond rfl (fun hc => ?_) (fun hc => ?_)
        | refine PW.regQ [] ?_
        | refine PW.sdrawG kt_11 sc_11 [] hmix (by kernel_rfl) (fun K hK => ?_)
        | refine PW.drawG sc_11 [] hmix (by kernel_rfl) (fun K hK => ?_)
        | refine PW.label ?_
        | omega
        | (split <;> first | contradiction | skip)
    by_cases q2 : 2000 < run
    · have e8 := Stops_bad bss run n d (by omega) hany (.inl (by unfold inV; exact decide_eq_false (by omega)))
      unfold rowsL rowsM ruleM bools at *
      repeat' first
        | exact True.intro
        | refine runQ_step (fun K hK => ?_)
        | refine runQ_end ?_
        | refine PW.sregN kt_11 [] (fun K hK => ?_)
        | simp only [push_cast, ↓reduceIte, Nat.reduceAdd, Nat.reduceSub, Nat.reduceMul, Nat.reduceEqDiff, Nat.reduceLT, Nat.reduceLeDiff, Int.reduceToNat, reduceCtorEq, Int.reduceEq, Int.reduceLT, Int.reduceLE, Int.reduceAdd, Int.reduceSub, Int.reduceMul, Int.reduceNeg, MV.top, kt_11, ti1, ti2, ti3, ti4, ti5, ti6, ti22, ti23, ti25, ti30, ti32, ti69, ti80, ti83, ti86, eqt30, eqt83, q1, q2]
        | refine And.intro ?_ ?_
        | (refine hK _ ?_; clear hK K)
        | (refine hK _ ?_ ?_ <;> clear hK K)
        | apply_assumption (exfalso := false) (symm := false) only [*]
        | refine runQ_gC rfl (fun K hK => ?_)
        | refine runQ_gS rfl rfl ?_
        | refine runQ_gU rfl rfl ?_
        | (refine runQ_gT rfl (fun hc K hK => ?_) (fun hc => ?_) <;> first | (exfalso; omega) | skip)
        | (refine runQ_gF rfl (fun hc K hK => ?_) (fun hc => ?_) <;> first | (exfalso; omega) | skip)
        | refine runQ_guard rfl (fun hc K hK => ?_) (fun hc => ?_)
        | refine DrG.take rfl rfl rfl (by kernel_rfl) rfl (fun K hK => ?_)
        | refine DrG.one rfl rfl (by kernel_rfl) (by kernel_rfl) (by kernel_rfl) (fun K hK => ?_)
        | refine DrG.fin rfl (by kernel_rfl) (by kernel_rfl) ?_
        | refine Still.ofR rfl rfl rfl (by kernel_rfl) rfl (fun K hK => ?_)
        | refine DrG.alt rfl (by kernel_rfl) (by kernel_rfl) ?_
        | refine DrH.two rfl rfl (by kernel_rfl) (fun K hK => ?_) ?_
        | refine DrH.one rfl rfl (by kernel_rfl) (fun K hK => ?_)
        | refine calP_lent rfl rfl e8 rfl ?_
        | refine calP_ret rfl rfl rfl e7 ?_
        | refine calP_lent rfl rfl ed rfl ?_
        | refine PW.seq (fun K hK => ?_)
        | refine PW.ret ?_
        | refine PW.skip ?_
        | refine PW.exit ?_
        | refine PW.block ?_
        | refine PW.condT rfl ?_
        | refine PW.condF rfl ?_
        | (refine PW.condD rfl (fun hc => ?_) (fun hc => ?_) <;> first | (exfalso; omega) | skip)
        | (refine PW.condN rfl (fun hc => ?_) (fun hc => ?_) <;> first | (exfalso; omega) | skip)
        | refine PW.cond rfl (fun hc => ?_) (fun hc => ?_)
        | refine PW.regQ [] ?_
        | refine PW.sdrawG kt_11 sc_11 [] hmix (by kernel_rfl) (fun K hK => ?_)
        | refine PW.drawG sc_11 [] hmix (by kernel_rfl) (fun K hK => ?_)
        | refine PW.label ?_
        | omega
        | (split <;> first | contradiction | skip)
    cases q3 : shareOk n d with
    | false =>
      rw [q3] at e6
      have e8 := Stops_bad bss run n d (by omega) hany (.inr q3)
      unfold rowsL rowsM ruleM bools at *
      repeat' first
        | exact True.intro
        | refine runQ_step (fun K hK => ?_)
        | refine runQ_end ?_
        | refine PW.sregN kt_11 [] (fun K hK => ?_)
        | simp only [push_cast, ↓reduceIte, Nat.reduceAdd, Nat.reduceSub, Nat.reduceMul, Nat.reduceEqDiff, Nat.reduceLT, Nat.reduceLeDiff, Int.reduceToNat, reduceCtorEq, Int.reduceEq, Int.reduceLT, Int.reduceLE, Int.reduceAdd, Int.reduceSub, Int.reduceMul, Int.reduceNeg, MV.top, kt_11, ti1, ti2, ti3, ti4, ti5, ti6, ti22, ti23, ti25, ti30, ti32, ti69, ti80, ti83, ti86, eqt30, eqt83, q1, q2, whenV]
        | refine And.intro ?_ ?_
        | (refine hK _ ?_; clear hK K)
        | (refine hK _ ?_ ?_ <;> clear hK K)
        | apply_assumption (exfalso := false) (symm := false) only [*]
        | refine runQ_gC rfl (fun K hK => ?_)
        | refine runQ_gS rfl rfl ?_
        | refine runQ_gU rfl rfl ?_
        | (refine runQ_gT rfl (fun hc K hK => ?_) (fun hc => ?_) <;> first | (exfalso; omega) | skip)
        | (refine runQ_gF rfl (fun hc K hK => ?_) (fun hc => ?_) <;> first | (exfalso; omega) | skip)
        | refine runQ_guard rfl (fun hc K hK => ?_) (fun hc => ?_)
        | refine DrG.take rfl rfl rfl (by kernel_rfl) rfl (fun K hK => ?_)
        | refine DrG.one rfl rfl (by kernel_rfl) (by kernel_rfl) (by kernel_rfl) (fun K hK => ?_)
        | refine DrG.fin rfl (by kernel_rfl) (by kernel_rfl) ?_
        | refine Still.ofR rfl rfl rfl (by kernel_rfl) rfl (fun K hK => ?_)
        | refine DrG.alt rfl (by kernel_rfl) (by kernel_rfl) ?_
        | refine DrH.two rfl rfl (by kernel_rfl) (fun K hK => ?_) ?_
        | refine DrH.one rfl rfl (by kernel_rfl) (fun K hK => ?_)
        | refine calP_lent rfl rfl e8 rfl ?_
        | refine calP_ret rfl rfl rfl e7 ?_
        | refine calP_lent rfl rfl e6 rfl ?_
        | refine calP_lent rfl rfl ed rfl ?_
        | refine PW.seq (fun K hK => ?_)
        | refine PW.ret ?_
        | refine PW.skip ?_
        | refine PW.exit ?_
        | refine PW.block ?_
        | refine PW.condT rfl ?_
        | refine PW.condF rfl ?_
        | (refine PW.condD rfl (fun hc => ?_) (fun hc => ?_) <;> first | (exfalso; omega) | skip)
        | (refine PW.condN rfl (fun hc => ?_) (fun hc => ?_) <;> first | (exfalso; omega) | skip)
        | refine PW.cond rfl (fun hc => ?_) (fun hc => ?_)
        | refine PW.regQ [] ?_
        | refine PW.sdrawG kt_11 sc_11 [] hmix (by kernel_rfl) (fun K hK => ?_)
        | refine PW.drawG sc_11 [] hmix (by kernel_rfl) (fun K hK => ?_)
        | refine PW.label ?_
        | omega
        | (split <;> first | contradiction | skip)
    | true =>
      rw [q3] at e6
      obtain ⟨r, rfl⟩ : ∃ r : Nat, run = r := ⟨run.toNat, by omega⟩
      have e8 := Stops_win bss r n d (by omega) hb (by omega) q3
      have e9 := StopsOf_spec bss r n d (by omega) hb (by omega) q3
      have hnn := stopAt_nn (stopB bss r n d) bss.length 1
      generalize stopAt (stopB bss r n d) bss.length 1 = res at e8 e9 hnn
      have e10 : Spec Try.prog 60 [rowsM bss, ruleM r n d] [(none, .int .i64 res), (none, .int .i64 (if res = 0 then 8 else 0))] := e8
      clear e8
      unfold rowsL rowsM ruleM bools at *
      by_cases hz : res = 0
      · rw [if_pos hz] at e10
        subst hz
        rw [show decide ((0 : Int) < 0) = false from rfl] at e9
        repeat' first
          | exact True.intro
          | refine runQ_step (fun K hK => ?_)
          | refine runQ_end ?_
          | refine PW.sregN kt_11 [] (fun K hK => ?_)
          | simp only [push_cast, ↓reduceIte, Nat.reduceAdd, Nat.reduceSub, Nat.reduceMul, Nat.reduceEqDiff, Nat.reduceLT, Nat.reduceLeDiff, Int.reduceToNat, reduceCtorEq, Int.reduceEq, Int.reduceLT, Int.reduceLE, Int.reduceAdd, Int.reduceSub, Int.reduceMul, Int.reduceNeg, MV.top, kt_11, ti1, ti2, ti3, ti4, ti5, ti6, ti22, ti23, ti25, ti30, ti32, ti69, ti80, ti83, ti86, eqt30, eqt83, q1, q2, whenV]
          | refine And.intro ?_ ?_
          | (refine hK _ ?_; clear hK K)
          | (refine hK _ ?_ ?_ <;> clear hK K)
          | apply_assumption (exfalso := false) (symm := false) only [*]
          | refine runQ_gC rfl (fun K hK => ?_)
          | refine runQ_gS rfl rfl ?_
          | refine runQ_gU rfl rfl ?_
          | (refine runQ_gT rfl (fun hc K hK => ?_) (fun hc => ?_) <;> first | (exfalso; omega) | skip)
          | (refine runQ_gF rfl (fun hc K hK => ?_) (fun hc => ?_) <;> first | (exfalso; omega) | skip)
          | refine runQ_guard rfl (fun hc K hK => ?_) (fun hc => ?_)
          | refine DrG.take rfl rfl rfl (by kernel_rfl) rfl (fun K hK => ?_)
          | refine DrG.one rfl rfl (by kernel_rfl) (by kernel_rfl) (by kernel_rfl) (fun K hK => ?_)
          | refine DrG.fin rfl (by kernel_rfl) (by kernel_rfl) ?_
          | refine Still.ofR rfl rfl rfl (by kernel_rfl) rfl (fun K hK => ?_)
          | refine DrG.alt rfl (by kernel_rfl) (by kernel_rfl) ?_
          | refine DrH.two rfl rfl (by kernel_rfl) (fun K hK => ?_) ?_
          | refine DrH.one rfl rfl (by kernel_rfl) (fun K hK => ?_)
          | refine calP_lent rfl rfl e10 rfl ?_
          | refine calP_ret rfl rfl rfl e7 ?_
          | refine calP_lent rfl rfl e6 rfl ?_
          | refine calP_lent rfl rfl e9 rfl ?_
          | refine calP_lent rfl rfl ed rfl ?_
          | refine PW.seq (fun K hK => ?_)
          | refine PW.ret ?_
          | refine PW.skip ?_
          | refine PW.exit ?_
          | refine PW.block ?_
          | refine PW.condT rfl ?_
          | refine PW.condF rfl ?_
          | (refine PW.condD rfl (fun hc => ?_) (fun hc => ?_) <;> first | (exfalso; omega) | skip)
          | (refine PW.condN rfl (fun hc => ?_) (fun hc => ?_) <;> first | (exfalso; omega) | skip)
          | refine PW.cond rfl (fun hc => ?_) (fun hc => ?_)
          | refine PW.regQ [] ?_
          | refine PW.sdrawG kt_11 sc_11 [] hmix (by kernel_rfl) (fun K hK => ?_)
          | refine PW.drawG sc_11 [] hmix (by kernel_rfl) (fun K hK => ?_)
          | refine PW.label ?_
          | omega
          | (split <;> first | contradiction | skip)
      · rw [if_neg hz] at e10
        rw [decide_eq_true (by omega)] at e9
        repeat' first
          | exact True.intro
          | refine runQ_step (fun K hK => ?_)
          | refine runQ_end ?_
          | refine PW.sregN kt_11 [] (fun K hK => ?_)
          | simp only [push_cast, ↓reduceIte, Nat.reduceAdd, Nat.reduceSub, Nat.reduceMul, Nat.reduceEqDiff, Nat.reduceLT, Nat.reduceLeDiff, Int.reduceToNat, reduceCtorEq, Int.reduceEq, Int.reduceLT, Int.reduceLE, Int.reduceAdd, Int.reduceSub, Int.reduceMul, Int.reduceNeg, MV.top, kt_11, ti1, ti2, ti3, ti4, ti5, ti6, ti22, ti23, ti25, ti30, ti32, ti69, ti80, ti83, ti86, eqt30, eqt83, q1, q2, whenV]
          | refine And.intro ?_ ?_
          | (refine hK _ ?_; clear hK K)
          | (refine hK _ ?_ ?_ <;> clear hK K)
          | apply_assumption (exfalso := false) (symm := false) only [*]
          | refine runQ_gC rfl (fun K hK => ?_)
          | refine runQ_gS rfl rfl ?_
          | refine runQ_gU rfl rfl ?_
          | (refine runQ_gT rfl (fun hc K hK => ?_) (fun hc => ?_) <;> first | (exfalso; omega) | skip)
          | (refine runQ_gF rfl (fun hc K hK => ?_) (fun hc => ?_) <;> first | (exfalso; omega) | skip)
          | refine runQ_guard rfl (fun hc K hK => ?_) (fun hc => ?_)
          | refine DrG.take rfl rfl rfl (by kernel_rfl) rfl (fun K hK => ?_)
          | refine DrG.one rfl rfl (by kernel_rfl) (by kernel_rfl) (by kernel_rfl) (fun K hK => ?_)
          | refine DrG.fin rfl (by kernel_rfl) (by kernel_rfl) ?_
          | refine Still.ofR rfl rfl rfl (by kernel_rfl) rfl (fun K hK => ?_)
          | refine DrG.alt rfl (by kernel_rfl) (by kernel_rfl) ?_
          | refine DrH.two rfl rfl (by kernel_rfl) (fun K hK => ?_) ?_
          | refine DrH.one rfl rfl (by kernel_rfl) (fun K hK => ?_)
          | refine calP_lent rfl rfl e10 rfl ?_
          | refine calP_ret rfl rfl rfl e7 ?_
          | refine calP_lent rfl rfl e6 rfl ?_
          | refine calP_lent rfl rfl e9 rfl ?_
          | refine calP_lent rfl rfl ed rfl ?_
          | refine PW.seq (fun K hK => ?_)
          | refine PW.ret ?_
          | refine PW.skip ?_
          | refine PW.exit ?_
          | refine PW.block ?_
          | refine PW.condT rfl ?_
          | refine PW.condF rfl ?_
          | (refine PW.condD rfl (fun hc => ?_) (fun hc => ?_) <;> first | (exfalso; omega) | skip)
          | (refine PW.condN rfl (fun hc => ?_) (fun hc => ?_) <;> first | (exfalso; omega) | skip)
          | refine PW.cond rfl (fun hc => ?_) (fun hc => ?_)
          | refine PW.regQ [] ?_
          | refine PW.sdrawG kt_11 sc_11 [] hmix (by kernel_rfl) (fun K hK => ?_)
          | refine PW.drawG sc_11 [] hmix (by kernel_rfl) (fun K hK => ?_)
          | refine PW.label ?_
          | omega
          | (split <;> first | contradiction | skip)
end Go.Pv

