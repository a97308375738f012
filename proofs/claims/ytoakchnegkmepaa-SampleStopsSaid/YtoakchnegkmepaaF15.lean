/- Contracts of streams: what was drawn. -/
import Derived.Test.YtoakchnegkmepaaF12
set_option linter.unusedSimpArgs false
set_option linter.unusedVariables false
set_option maxRecDepth 100000
set_option maxHeartbeats 4000000
namespace Go.Pv
open Go Go.Proofs
attribute [local irreducible] PW Dr DrS DrN DrG DrH Spec SpecB runQ opP calP gdP Still

theorem np_ints (ls : List Int) : np (ints ls) = true := by
  unfold ints
  simp only [np]
  induction ls with
  | nil => rfl
  | cons a r ih => simp only [List.map_cons, npLL, npL, np, Bool.and_true, Bool.true_and]; exact ih

theorem npB_strm (ls : List Int) (at_ : Int) : npB (strm ls at_) := by
  intro cs h c hc
  unfold strm at h
  injection h with h
  subst h
  simp only [List.mem_cons, List.not_mem_nil, or_false] at hc
  rcases hc with rfl | rfl
  · exact np_ints ls
  · rfl

def oddV (ls : List Int) (at_ lo hi : Int) : Int := if nextV ls at_ 12 = 0 then pickV ls (at_ + 1) [lo - 1, hi + 1, lo, hi, -1099511627776, 1099511627776] else rangeV ls (at_ + 1) lo hi

theorem oddV_bd {ls : List Int} {at_ lo hi : Int} (h : lo ≤ hi) (h0 : -1000000 ≤ lo) (h1 : hi ≤ 1000000) : -1099511627776 ≤ oddV ls at_ lo hi ∧ oddV ls at_ lo hi ≤ 1099511627776 := by
  unfold oddV
  split
  · have := pickV_mem (ls := ls) (at_ := at_ + 1) (xs := [lo - 1, hi + 1, lo, hi, -1099511627776, 1099511627776]) (by simp) (by simp)
    simp only [List.mem_cons, List.not_mem_nil, or_false] at this
    rcases this with h | h | h | h | h | h <;> rw [h] <;> omega
  · have := rangeV_bd (ls := ls) (at_ := at_ + 1) h (by omega) (by omega)
    omega

/-- What is read later. -/
def kt_67 : List (Nat × List Nat) := [(0, [0, 1, 2]), (1, [0, 1, 2, 8]), (2, [6]), (3, [6])]
theorem odd10_spec {B : List (Option (List Ct))} {k : Nat} {ls : List Int} {at_ : Int} (lo hi : Int) (hB : B[k]? = some (strm ls at_)) (h0 : 0 ≤ at_) (h1 : at_ < 4611686018427387000) (hl : lo ≤ hi) (hl0 : -1000000 ≤ lo) (hl1 : hi ≤ 1000000) :
    SpecB Try.prog 67 [.ptr k 0, .int .i64 lo, .int .i64 hi] B [(none, .int .i64 (oddV ls at_ lo hi))] (B.set k (strm ls (at_ + 1 + 1))) := by
  have hk : k < B.length := (List.getElem?_eq_some_iff.1 hB).1
  have hB2 : (B.set k (strm ls (at_ + 1)))[k]? = some (strm ls (at_ + 1)) := by rw [List.getElem?_set_self hk]
  have e1 := Flip_spec 12 hB h0 (by omega)
  have e2 := Pick_spec [lo - 1, hi + 1, lo, hi, -1099511627776, 1099511627776] hB2 (by omega) (by omega) (by simp) (by simp)
  have e3 := Range_spec lo hi hB2 (by omega) (by omega) hl (by omega) (by omega)
  have w1 : IntKind.i64.wrap (lo - 1) = lo - 1 := wrap_id (by omega) (by omega)
  have w2 : IntKind.i64.wrap (hi + 1) = hi + 1 := wrap_id (by omega) (by omega)
  unfold oddV
  by_cases hf : nextV ls at_ 12 = 0
  · rw [if_pos hf]
    rw [decide_eq_true hf] at e1
    clear hf
    refine specB_of (nt := 22) (rs := [.tmp 6]) Try.func67 rfl rfl rfl rfl (by simp) (by simp) ?_
    repeat' first
      | exact True.intro
      | refine runQ_step (fun K hK => ?_)
      | refine runQ_end ?_
      | refine PW.sregN kt_67 [] (fun K hK => ?_)
      | simp only [push_cast, ↓reduceIte, Nat.reduceAdd, Nat.reduceSub, Nat.reduceMul, Nat.reduceEqDiff, Nat.reduceLT, Nat.reduceLeDiff, Int.reduceToNat, reduceCtorEq, Int.reduceEq, Int.reduceLT, Int.reduceLE, Int.reduceAdd, Int.reduceSub, Int.reduceMul, Int.reduceNeg, MV.top, kt_67, ti1, ti2, ti3, ti4, ti5, ti6, ti22, ti23, ti25, w1, w2, List.set_set]
      | refine And.intro ?_ ?_
      | (refine hK _ ?_; clear hK K)
      | (refine hK _ ?_ ?_ <;> clear hK K)
      | apply_assumption (exfalso := false) (symm := false) only [*]
      | refine calP_box rfl rfl e1 ?_
      | refine calP_box rfl rfl e2 ?_
      | refine PW.seq (fun K hK => ?_)
      | refine PW.ret ?_
      | refine PW.skip ?_
      | refine PW.exit ?_
      | refine PW.block ?_
      | refine PW.condT rfl ?_
      | refine PW.condF rfl ?_
      | (refine PW.condD rfl (fun hc => ?_) (fun hc => ?_) <;> first | (exfalso; omega) | skip)
      | (refine PW.condN rfl (fun hc => ?_) (fun hc => ?_) <;> first | (exfalso; omega) | skip)
      | refine PW.cond rfl (fun hc => ?_) (fun hc => ?_)
      | refine PW.regQ [] ?_
      | refine PW.sdrawG kt_67 sc_67 [] hmix (by kernel_rfl) (fun K hK => ?_)
      | refine PW.drawG sc_67 [] hmix (by kernel_rfl) (fun K hK => ?_)
      | refine PW.label ?_
      | omega
      | (split <;> first | contradiction | skip)
  · rw [if_neg hf]
    rw [decide_eq_false hf] at e1
    clear hf
    refine specB_of (nt := 22) (rs := [.tmp 6]) Try.func67 rfl rfl rfl rfl (by simp) (by simp) ?_
    repeat' first
      | exact True.intro
      | refine runQ_step (fun K hK => ?_)
      | refine runQ_end ?_
      | refine PW.sregN kt_67 [] (fun K hK => ?_)
      | simp only [push_cast, ↓reduceIte, Nat.reduceAdd, Nat.reduceSub, Nat.reduceMul, Nat.reduceEqDiff, Nat.reduceLT, Nat.reduceLeDiff, Int.reduceToNat, reduceCtorEq, Int.reduceEq, Int.reduceLT, Int.reduceLE, Int.reduceAdd, Int.reduceSub, Int.reduceMul, Int.reduceNeg, MV.top, kt_67, ti1, ti2, ti3, ti4, ti5, ti6, ti22, ti23, ti25, List.set_set]
      | refine And.intro ?_ ?_
      | (refine hK _ ?_; clear hK K)
      | (refine hK _ ?_ ?_ <;> clear hK K)
      | apply_assumption (exfalso := false) (symm := false) only [*]
      | refine calP_box rfl rfl e1 ?_
      | refine calP_box rfl rfl e3 ?_
      | refine PW.seq (fun K hK => ?_)
      | refine PW.ret ?_
      | refine PW.skip ?_
      | refine PW.exit ?_
      | refine PW.block ?_
      | refine PW.condT rfl ?_
      | refine PW.condF rfl ?_
      | (refine PW.condD rfl (fun hc => ?_) (fun hc => ?_) <;> first | (exfalso; omega) | skip)
      | (refine PW.condN rfl (fun hc => ?_) (fun hc => ?_) <;> first | (exfalso; omega) | skip)
      | refine PW.cond rfl (fun hc => ?_) (fun hc => ?_)
      | refine PW.regQ [] ?_
      | refine PW.sdrawG kt_67 sc_67 [] hmix (by kernel_rfl) (fun K hK => ?_)
      | refine PW.drawG sc_67 [] hmix (by kernel_rfl) (fun K hK => ?_)
      | refine PW.label ?_
      | omega
      | (split <;> first | contradiction | skip)

/-- Plans for open orders. -/
def sc_13 : List (Nat × Sc) := [(2, .take 0 (.take 1 (.take 2 (.take 3 (.one 4 [3, 2, 1, 0] (.one 5 [2, 1, 0] (.take 6 (.one 7 [2, 1] (.take 8 (.one 9 [] (.fin))))))))))), (3, .take 0 (.take 1 (.take 2 (.take 3 (.take 4 (.take 5 (.take 7 (.take 8 (.take 9 (.take 10 (.one 6 [10, 9, 8, 7, 4, 2, 1, 0] (.one 11 [9, 8, 4, 2, 1, 0] (.one 12 [9, 8, 4, 1, 0] (.one 13 [9, 8, 4, 1] (.take 14 (.one 15 [] (.fin)))))))))))))))))]
/-- What is read later. -/
def kt_13 : List (Nat × List Nat) := [(0, [0, 2]), (1, [0, 2, 3]), (2, [0, 2, 3]), (3, [0, 2, 3]), (4, [0, 2, 3, 35]), (5, [0, 2, 3, 37]), (6, [2, 3]), (7, [0, 2, 3, 37, 43]), (8, [2, 3]), (9, [0, 2, 3, 48]), (10, [2, 3]), (11, [2])]
theorem Drawn_spec0 (ls : List Int) (at_ : Int) (h0 : 0 ≤ at_) (h1 : at_ < 1000000000) : ∃ p s f at2, (-1099511627776 ≤ p ∧ p ≤ 1099511627776) ∧ (-1099511627776 ≤ s ∧ s ≤ 1099511627776) ∧ (-1099511627776 ≤ f ∧ f ≤ 1099511627776) ∧ (at_ ≤ at2 ∧ at2 ≤ at_ + 20) ∧
    SpecB Try.prog 13 [.ptr 0 0] [strm ls at_] [(none, drawnM p s f)] [strm ls at2] := by
  obtain ⟨r1, hr1⟩ : ∃ x, x = rangeV ls at_ 1 60 := ⟨_, rfl⟩
  obtain ⟨p0, hp0⟩ : ∃ x, x = pickV ls (at_ + 1) [1, 2, 5, 10, 30, 100, 2000, r1] := ⟨_, rfl⟩
  obtain ⟨c3, hc3⟩ : ∃ x, x = pickV ls (at_ + 1 + 1) [3, 10, 60] := ⟨_, rfl⟩
  obtain ⟨m, hm⟩ : ∃ x, x = mm2 false p0 c3 := ⟨_, rfl⟩
  obtain ⟨s0, hs0⟩ : ∃ x, x = rangeV ls (at_ + 1 + 1 + 1) 1 m := ⟨_, rfl⟩
  obtain ⟨f1, hf1⟩ : ∃ x, x = rangeV ls (at_ + 1 + 1 + 1 + 1) 0 s0 := ⟨_, rfl⟩
  obtain ⟨f2, hf2⟩ : ∃ x, x = rangeV ls (at_ + 1 + 1 + 1 + 1 + 1) 0 (mm2 false s0 3) := ⟨_, rfl⟩
  obtain ⟨f0, hf0⟩ : ∃ x, x = pickV ls (at_ + 1 + 1 + 1 + 1 + 1 + 1) [0, s0, f1, f2] := ⟨_, rfl⟩
  have br1 : 1 ≤ r1 ∧ r1 ≤ 60 := by rw [hr1]; exact rangeV_bd (by omega) (by omega) (by omega)
  have bp0 : 1 ≤ p0 ∧ p0 ≤ 2000 := by
    have := pickV_mem (ls := ls) (at_ := at_ + 1) (xs := [1, 2, 5, 10, 30, 100, 2000, r1]) (by simp) (by simp)
    rw [← hp0] at this
    simp only [List.mem_cons, List.not_mem_nil, or_false] at this
    omega
  have bc3 : 3 ≤ c3 ∧ c3 ≤ 60 := by
    have := pickV_mem (ls := ls) (at_ := at_ + 1 + 1) (xs := [3, 10, 60]) (by simp) (by simp)
    rw [← hc3] at this
    simp only [List.mem_cons, List.not_mem_nil, or_false] at this
    omega
  have bm : 1 ≤ m ∧ m ≤ 60 := by rw [hm]; simp only [mm2, Bool.false_eq_true, if_false]; split <;> omega
  have bs0 : 1 ≤ s0 ∧ s0 ≤ m := by rw [hs0]; exact rangeV_bd (by omega) (by omega) (by omega)
  have bf1 : 0 ≤ f1 ∧ f1 ≤ s0 := by rw [hf1]; exact rangeV_bd (by omega) (by omega) (by omega)
  have bm2 : 0 ≤ mm2 false s0 3 ∧ mm2 false s0 3 ≤ 60 := by simp only [mm2, Bool.false_eq_true, if_false]; split <;> omega
  have bf2 : 0 ≤ f2 ∧ f2 ≤ 60 := by
    have : 0 ≤ f2 ∧ f2 ≤ mm2 false s0 3 := by rw [hf2]; exact rangeV_bd (by omega) (by omega) (by omega)
    omega
  have bf0 : 0 ≤ f0 ∧ f0 ≤ 60 := by
    have := pickV_mem (ls := ls) (at_ := at_ + 1 + 1 + 1 + 1 + 1 + 1) (xs := [0, s0, f1, f2]) (by simp) (by simp)
    rw [← hf0] at this
    simp only [List.mem_cons, List.not_mem_nil, or_false] at this
    omega
  have E1 := fun B hB => @Range_spec B 0 ls at_ 1 60 hB (by omega) (by omega) (by omega) (by omega) (by omega)
  have E2 := fun B hB => @Pick_spec B 0 ls (at_ + 1) [1, 2, 5, 10, 30, 100, 2000, r1] hB (by omega) (by omega) (by simp) (by simp)
  have E3 := fun B hB => @Pick_spec B 0 ls (at_ + 1 + 1) [3, 10, 60] hB (by omega) (by omega) (by simp) (by simp)
  have E4 := fun B hB => @Range_spec B 0 ls (at_ + 1 + 1 + 1) 1 m hB (by omega) (by omega) (by omega) (by omega) (by omega)
  have E5 := fun B hB => @Range_spec B 0 ls (at_ + 1 + 1 + 1 + 1) 0 s0 hB (by omega) (by omega) (by omega) (by omega) (by omega)
  have E6 := fun B hB => @Range_spec B 0 ls (at_ + 1 + 1 + 1 + 1 + 1) 0 (mm2 false s0 3) hB (by omega) (by omega) (by omega) (by omega) (by omega)
  have E7 := fun B hB => @Pick_spec B 0 ls (at_ + 1 + 1 + 1 + 1 + 1 + 1) [0, s0, f1, f2] hB (by omega) (by omega) (by simp) (by simp)
  have E8 := fun B hB => @Flip_spec B 0 ls (at_ + 1 + 1 + 1 + 1 + 1 + 1 + 1) 25 hB (by omega) (by omega)
  have E9 := fun B hB => @Next_spec B 0 ls (at_ + 1 + 1 + 1 + 1 + 1 + 1 + 1 + 1) 3 hB (by omega) (by omega)
  have E10 := fun B hB => @odd10_spec B 0 ls (at_ + 1 + 1 + 1 + 1 + 1 + 1 + 1 + 1 + 1) 1 2000 hB (by omega) (by omega) (by omega) (by omega) (by omega)
  have E11 := fun B hB => @odd10_spec B 0 ls (at_ + 1 + 1 + 1 + 1 + 1 + 1 + 1 + 1 + 1) 1 60 hB (by omega) (by omega) (by omega) (by omega) (by omega)
  have E12 := fun B hB => @odd10_spec B 0 ls (at_ + 1 + 1 + 1 + 1 + 1 + 1 + 1 + 1 + 1) 0 s0 hB (by omega) (by omega) (by omega) (by omega) (by omega)
  have b1 := oddV_bd (ls := ls) (at_ := at_ + 1 + 1 + 1 + 1 + 1 + 1 + 1 + 1 + 1) (lo := 1) (hi := 2000) (by omega) (by omega) (by omega)
  have b2 := oddV_bd (ls := ls) (at_ := at_ + 1 + 1 + 1 + 1 + 1 + 1 + 1 + 1 + 1) (lo := 1) (hi := 60) (by omega) (by omega) (by omega)
  have b3 := oddV_bd (ls := ls) (at_ := at_ + 1 + 1 + 1 + 1 + 1 + 1 + 1 + 1 + 1) (lo := 0) (hi := s0) (by omega) (by omega) (by omega)
  rw [← hr1] at E1
  rw [← hp0] at E2
  rw [← hc3] at E3
  rw [← hs0] at E4
  rw [← hf1] at E5
  rw [← hf2] at E6
  rw [← hf0] at E7
  generalize oddV ls (at_ + 1 + 1 + 1 + 1 + 1 + 1 + 1 + 1 + 1) 1 2000 = o1 at E10 b1
  generalize oddV ls (at_ + 1 + 1 + 1 + 1 + 1 + 1 + 1 + 1 + 1) 1 60 = o2 at E11 b2
  generalize oddV ls (at_ + 1 + 1 + 1 + 1 + 1 + 1 + 1 + 1 + 1) 0 s0 = o3 at E12 b3
  have hm' := hm.symm
  clear hr1 hp0 hc3 hs0 hf1 hf2 hf0 hm bf1 bf2
  by_cases hf : nextV ls (at_ + 1 + 1 + 1 + 1 + 1 + 1 + 1) 25 = 0
  · rw [decide_eq_true hf] at E8
    by_cases h2 : nextV ls (at_ + 1 + 1 + 1 + 1 + 1 + 1 + 1 + 1) 3 = 0
    · rw [h2] at E9
      refine ⟨o1, s0, f0, at_ + 1 + 1 + 1 + 1 + 1 + 1 + 1 + 1 + 1 + 1 + 1, b1, by omega, by omega, by omega, ?_⟩
      clear b1 b2 b3
      unfold drawnM
      refine specB_ofA (nt := 54) (rs := [.cell 2 27]) Try.func13 rfl rfl rfl rfl (by simp) (by simp) (by simp [npR, np, npL]) (by simp [npB_strm]) ?_
      repeat' first
        | exact True.intro
        | refine runQ_step (fun K hK => ?_)
        | refine runQ_end ?_
        | refine PW.sregN kt_13 [] (fun K hK => ?_)
        | simp only [push_cast, ↓reduceIte, Nat.reduceAdd, Nat.reduceSub, Nat.reduceMul, Nat.reduceEqDiff, Nat.reduceLT, Nat.reduceLeDiff, Int.reduceToNat, reduceCtorEq, Int.reduceEq, Int.reduceLT, Int.reduceLE, Int.reduceAdd, Int.reduceSub, Int.reduceMul, Int.reduceNeg, MV.top, kt_13, ti1, ti2, ti3, ti4, ti5, ti6, ti7, ti8, ti22, ti23, ti25, ti27, eqt7, eqt8, eqt27, strm, hm']
        | refine And.intro ?_ ?_
        | (refine hK _ ?_; clear hK K)
        | (refine hK _ ?_ ?_ <;> clear hK K)
        | apply_assumption (exfalso := false) (symm := false) only [*]
        | refine DrG.take rfl rfl rfl (by kernel_rfl) rfl (fun K hK => ?_)
        | refine DrG.one rfl rfl (by kernel_rfl) (by kernel_rfl) (by kernel_rfl) (fun K hK => ?_)
        | refine DrG.fin rfl (by kernel_rfl) (by kernel_rfl) ?_
        | refine Still.ofR rfl rfl rfl (by kernel_rfl) rfl (fun K hK => ?_)
        | refine calP_box rfl rfl (E1 _ rfl) ?_
        | refine calP_box rfl rfl (E2 _ rfl) ?_
        | refine calP_box rfl rfl (E3 _ rfl) ?_
        | refine calP_box rfl rfl (E4 _ rfl) ?_
        | refine calP_box rfl rfl (E5 _ rfl) ?_
        | refine calP_box rfl rfl (E6 _ rfl) ?_
        | refine calP_box rfl rfl (E7 _ rfl) ?_
        | refine calP_box rfl rfl (E8 _ rfl) ?_
        | refine calP_box rfl rfl (E9 _ rfl) ?_
        | refine calP_box rfl rfl (E10 _ rfl) ?_
        | refine PW.seq (fun K hK => ?_)
        | refine PW.ret ?_
        | refine PW.skip ?_
        | refine PW.exit ?_
        | refine PW.block ?_
        | refine PW.condT rfl ?_
        | refine PW.condF rfl ?_
        | (refine PW.condD rfl (fun hc => ?_) (fun hc => ?_) <;> first | (exfalso; omega) | skip)
        | (refine PW.condN rfl (fun hc => ?_) (fun hc => ?_) <;> first | (exfalso; omega) | skip)
        | refine PW.cond rfl (fun hc => ?_) (fun hc => ?_)
        | refine PW.regQ [] ?_
        | refine PW.sdrawG kt_13 sc_13 [] hmix (by kernel_rfl) (fun K hK => ?_)
        | refine PW.drawG sc_13 [] hmix (by kernel_rfl) (fun K hK => ?_)
        | refine PW.label ?_
        | omega
        | (split <;> first | contradiction | skip)
    · by_cases h3 : nextV ls (at_ + 1 + 1 + 1 + 1 + 1 + 1 + 1 + 1) 3 = 1
      · rw [h3] at E9
        refine ⟨p0, o2, f0, at_ + 1 + 1 + 1 + 1 + 1 + 1 + 1 + 1 + 1 + 1 + 1, by omega, b2, by omega, by omega, ?_⟩
        clear b1 b2 b3
        unfold drawnM
        refine specB_ofA (nt := 54) (rs := [.cell 2 27]) Try.func13 rfl rfl rfl rfl (by simp) (by simp) (by simp [npR, np, npL]) (by simp [npB_strm]) ?_
        repeat' first
          | exact True.intro
          | refine runQ_step (fun K hK => ?_)
          | refine runQ_end ?_
          | refine PW.sregN kt_13 [] (fun K hK => ?_)
          | simp only [push_cast, ↓reduceIte, Nat.reduceAdd, Nat.reduceSub, Nat.reduceMul, Nat.reduceEqDiff, Nat.reduceLT, Nat.reduceLeDiff, Int.reduceToNat, reduceCtorEq, Int.reduceEq, Int.reduceLT, Int.reduceLE, Int.reduceAdd, Int.reduceSub, Int.reduceMul, Int.reduceNeg, MV.top, kt_13, ti1, ti2, ti3, ti4, ti5, ti6, ti7, ti8, ti22, ti23, ti25, ti27, eqt7, eqt8, eqt27, strm, hm']
          | refine And.intro ?_ ?_
          | (refine hK _ ?_; clear hK K)
          | (refine hK _ ?_ ?_ <;> clear hK K)
          | apply_assumption (exfalso := false) (symm := false) only [*]
          | refine DrG.take rfl rfl rfl (by kernel_rfl) rfl (fun K hK => ?_)
          | refine DrG.one rfl rfl (by kernel_rfl) (by kernel_rfl) (by kernel_rfl) (fun K hK => ?_)
          | refine DrG.fin rfl (by kernel_rfl) (by kernel_rfl) ?_
          | refine Still.ofR rfl rfl rfl (by kernel_rfl) rfl (fun K hK => ?_)
          | refine calP_box rfl rfl (E1 _ rfl) ?_
          | refine calP_box rfl rfl (E2 _ rfl) ?_
          | refine calP_box rfl rfl (E3 _ rfl) ?_
          | refine calP_box rfl rfl (E4 _ rfl) ?_
          | refine calP_box rfl rfl (E5 _ rfl) ?_
          | refine calP_box rfl rfl (E6 _ rfl) ?_
          | refine calP_box rfl rfl (E7 _ rfl) ?_
          | refine calP_box rfl rfl (E8 _ rfl) ?_
          | refine calP_box rfl rfl (E9 _ rfl) ?_
          | refine calP_box rfl rfl (E11 _ rfl) ?_
          | refine PW.seq (fun K hK => ?_)
          | refine PW.ret ?_
          | refine PW.skip ?_
          | refine PW.exit ?_
          | refine PW.block ?_
          | refine PW.condT rfl ?_
          | refine PW.condF rfl ?_
          | (refine PW.condD rfl (fun hc => ?_) (fun hc => ?_) <;> first | (exfalso; omega) | skip)
          | (refine PW.condN rfl (fun hc => ?_) (fun hc => ?_) <;> first | (exfalso; omega) | skip)
          | refine PW.cond rfl (fun hc => ?_) (fun hc => ?_)
          | refine PW.regQ [] ?_
          | refine PW.sdrawG kt_13 sc_13 [] hmix (by kernel_rfl) (fun K hK => ?_)
          | refine PW.drawG sc_13 [] hmix (by kernel_rfl) (fun K hK => ?_)
          | refine PW.label ?_
          | omega
          | (split <;> first | contradiction | skip)
      · generalize nextV ls (at_ + 1 + 1 + 1 + 1 + 1 + 1 + 1 + 1) 3 = x at E9 h2 h3
        refine ⟨p0, s0, o3, at_ + 1 + 1 + 1 + 1 + 1 + 1 + 1 + 1 + 1 + 1 + 1, by omega, by omega, b3, by omega, ?_⟩
        clear b1 b2 b3
        unfold drawnM
        refine specB_ofA (nt := 54) (rs := [.cell 2 27]) Try.func13 rfl rfl rfl rfl (by simp) (by simp) (by simp [npR, np, npL]) (by simp [npB_strm]) ?_
        repeat' first
          | exact True.intro
          | refine runQ_step (fun K hK => ?_)
          | refine runQ_end ?_
          | refine PW.sregN kt_13 [] (fun K hK => ?_)
          | simp only [push_cast, ↓reduceIte, Nat.reduceAdd, Nat.reduceSub, Nat.reduceMul, Nat.reduceEqDiff, Nat.reduceLT, Nat.reduceLeDiff, Int.reduceToNat, reduceCtorEq, Int.reduceEq, Int.reduceLT, Int.reduceLE, Int.reduceAdd, Int.reduceSub, Int.reduceMul, Int.reduceNeg, MV.top, kt_13, ti1, ti2, ti3, ti4, ti5, ti6, ti7, ti8, ti22, ti23, ti25, ti27, eqt7, eqt8, eqt27, strm, hm', h2, h3]
          | refine And.intro ?_ ?_
          | (refine hK _ ?_; clear hK K)
          | (refine hK _ ?_ ?_ <;> clear hK K)
          | apply_assumption (exfalso := false) (symm := false) only [*]
          | refine DrG.take rfl rfl rfl (by kernel_rfl) rfl (fun K hK => ?_)
          | refine DrG.one rfl rfl (by kernel_rfl) (by kernel_rfl) (by kernel_rfl) (fun K hK => ?_)
          | refine DrG.fin rfl (by kernel_rfl) (by kernel_rfl) ?_
          | refine Still.ofR rfl rfl rfl (by kernel_rfl) rfl (fun K hK => ?_)
          | refine calP_box rfl rfl (E1 _ rfl) ?_
          | refine calP_box rfl rfl (E2 _ rfl) ?_
          | refine calP_box rfl rfl (E3 _ rfl) ?_
          | refine calP_box rfl rfl (E4 _ rfl) ?_
          | refine calP_box rfl rfl (E5 _ rfl) ?_
          | refine calP_box rfl rfl (E6 _ rfl) ?_
          | refine calP_box rfl rfl (E7 _ rfl) ?_
          | refine calP_box rfl rfl (E8 _ rfl) ?_
          | refine calP_box rfl rfl (E9 _ rfl) ?_
          | refine calP_box rfl rfl (E12 _ rfl) ?_
          | refine PW.seq (fun K hK => ?_)
          | refine PW.ret ?_
          | refine PW.skip ?_
          | refine PW.exit ?_
          | refine PW.block ?_
          | refine PW.condT rfl ?_
          | refine PW.condF rfl ?_
          | (refine PW.condD rfl (fun hc => ?_) (fun hc => ?_) <;> first | (exfalso; omega) | skip)
          | (refine PW.condN rfl (fun hc => ?_) (fun hc => ?_) <;> first | (exfalso; omega) | skip)
          | refine PW.cond rfl (fun hc => ?_) (fun hc => ?_)
          | refine PW.regQ [] ?_
          | refine PW.sdrawG kt_13 sc_13 [] hmix (by kernel_rfl) (fun K hK => ?_)
          | refine PW.drawG sc_13 [] hmix (by kernel_rfl) (fun K hK => ?_)
          | refine PW.label ?_
          | omega
          | (split <;> first | contradiction | skip)
  · rw [decide_eq_false hf] at E8
    refine ⟨p0, s0, f0, at_ + 1 + 1 + 1 + 1 + 1 + 1 + 1 + 1, by omega, by omega, by omega, by omega, ?_⟩
    clear b1 b2 b3
    unfold drawnM
    refine specB_ofA (nt := 54) (rs := [.cell 2 27]) Try.func13 rfl rfl rfl rfl (by simp) (by simp) (by simp [npR, np, npL]) (by simp [npB_strm]) ?_
    repeat' first
      | exact True.intro
      | refine runQ_step (fun K hK => ?_)
      | refine runQ_end ?_
      | refine PW.sregN kt_13 [] (fun K hK => ?_)
      | simp only [push_cast, ↓reduceIte, Nat.reduceAdd, Nat.reduceSub, Nat.reduceMul, Nat.reduceEqDiff, Nat.reduceLT, Nat.reduceLeDiff, Int.reduceToNat, reduceCtorEq, Int.reduceEq, Int.reduceLT, Int.reduceLE, Int.reduceAdd, Int.reduceSub, Int.reduceMul, Int.reduceNeg, MV.top, kt_13, ti1, ti2, ti3, ti4, ti5, ti6, ti7, ti8, ti22, ti23, ti25, ti27, eqt7, eqt8, eqt27, strm, hm']
      | refine And.intro ?_ ?_
      | (refine hK _ ?_; clear hK K)
      | (refine hK _ ?_ ?_ <;> clear hK K)
      | apply_assumption (exfalso := false) (symm := false) only [*]
      | refine DrG.take rfl rfl rfl (by kernel_rfl) rfl (fun K hK => ?_)
      | refine DrG.one rfl rfl (by kernel_rfl) (by kernel_rfl) (by kernel_rfl) (fun K hK => ?_)
      | refine DrG.fin rfl (by kernel_rfl) (by kernel_rfl) ?_
      | refine Still.ofR rfl rfl rfl (by kernel_rfl) rfl (fun K hK => ?_)
      | refine calP_box rfl rfl (E1 _ rfl) ?_
      | refine calP_box rfl rfl (E2 _ rfl) ?_
      | refine calP_box rfl rfl (E3 _ rfl) ?_
      | refine calP_box rfl rfl (E4 _ rfl) ?_
      | refine calP_box rfl rfl (E5 _ rfl) ?_
      | refine calP_box rfl rfl (E6 _ rfl) ?_
      | refine calP_box rfl rfl (E7 _ rfl) ?_
      | refine calP_box rfl rfl (E8 _ rfl) ?_
      | refine PW.seq (fun K hK => ?_)
      | refine PW.ret ?_
      | refine PW.skip ?_
      | refine PW.exit ?_
      | refine PW.block ?_
      | refine PW.condT rfl ?_
      | refine PW.condF rfl ?_
      | (refine PW.condD rfl (fun hc => ?_) (fun hc => ?_) <;> first | (exfalso; omega) | skip)
      | (refine PW.condN rfl (fun hc => ?_) (fun hc => ?_) <;> first | (exfalso; omega) | skip)
      | refine PW.cond rfl (fun hc => ?_) (fun hc => ?_)
      | refine PW.regQ [] ?_
      | refine PW.sdrawG kt_13 sc_13 [] hmix (by kernel_rfl) (fun K hK => ?_)
      | refine PW.drawG sc_13 [] hmix (by kernel_rfl) (fun K hK => ?_)
      | refine PW.label ?_
      | omega
      | (split <;> first | contradiction | skip)

theorem Drawn_spec (ls : List Int) (at_ : Int) (h0 : 0 ≤ at_) (h1 : at_ < 1000000000) : ∃ p s f at2, (-1099511627776 ≤ p ∧ p ≤ 1099511627776) ∧ (-1099511627776 ≤ s ∧ s ≤ 1099511627776) ∧ (-1099511627776 ≤ f ∧ f ≤ 1099511627776) ∧ (at_ ≤ at2 ∧ at2 ≤ at_ + 20) ∧
    ∀ (B : List (Option (List Ct))) (k : Nat), B[k]? = some (strm ls at_) → SpecB Try.prog 13 [.ptr k 0] B [(none, drawnM p s f)] (B.set k (strm ls at2)) := by
  obtain ⟨p, s, f, at2, h2, h3, h4, h5, h6⟩ := Drawn_spec0 ls at_ h0 h1
  exact ⟨p, s, f, at2, h2, h3, h4, h5, fun B k hB => SpecB.frame h6 (by simp) (by simp [npR, np, npL, drawnM]) (npB_strm _ _) (npB_strm _ _) hB⟩

/-- What is read later. -/
def kt_20 : List (Nat × List Nat) := [(0, [1]), (1, [23]), (2, [2]), (3, [2])]
theorem DrawnFault_spec (p s f : Int) : Spec Try.prog 20 [drawnM p s f] [(none, .int .i64 (whenV (!drawnOk p s f) 1))] := by
  unfold drawnM
  cases q1 : inV p 1 2000 with
  | false =>
    have hr : drawnOk p s f = false := by simp [drawnOk, q1]
    rw [hr]
    refine spec_of (nt := 24) (rs := [.tmp 2]) Try.func20 rfl rfl rfl rfl (by simp) (by simp [np]) (fun B => ?_)
    repeat' first
      | exact True.intro
      | refine runQ_step (fun K hK => ?_)
      | refine runQ_end ?_
      | refine PW.sregN kt_20 [1] (fun K hK => ?_)
      | simp only [push_cast, ↓reduceIte, Nat.reduceAdd, Nat.reduceSub, Nat.reduceMul, Nat.reduceEqDiff, Nat.reduceLT, Nat.reduceLeDiff, Int.reduceToNat, reduceCtorEq, Int.reduceEq, Int.reduceLT, Int.reduceLE, Int.reduceAdd, Int.reduceSub, Int.reduceMul, Int.reduceNeg, MV.top, kt_20, ti1, ti2, ti3, ti4, ti27, ti32, eqt27, q1, whenV]
      | refine And.intro ?_ ?_
      | (refine hK _ ?_; clear hK K)
      | (refine hK _ ?_ ?_ <;> clear hK K)
      | apply_assumption (exfalso := false) (symm := false) only [*]
      | refine runQ_gC rfl (fun K hK => ?_)
      | refine runQ_gS rfl rfl ?_
      | refine runQ_gU rfl rfl ?_
      | (refine runQ_gT rfl (fun hc K hK => ?_) (fun hc => ?_) <;> first | (exfalso; omega) | skip)
      | (refine runQ_gF rfl (fun hc K hK => ?_) (fun hc => ?_) <;> first | (exfalso; omega) | skip)
      | refine runQ_guard rfl (fun hc K hK => ?_) (fun hc => ?_)
      | refine calP_lent rfl rfl (rin_spec _ _ _) rfl ?_
      | refine PW.seq (fun K hK => ?_)
      | refine PW.ret ?_
      | refine PW.skip ?_
      | refine PW.exit ?_
      | refine PW.block ?_
      | refine PW.condT rfl ?_
      | refine PW.condF rfl ?_
      | (refine PW.condD rfl (fun hc => ?_) (fun hc => ?_) <;> first | (exfalso; omega) | skip)
      | (refine PW.condN rfl (fun hc => ?_) (fun hc => ?_) <;> first | (exfalso; omega) | skip)
      | refine PW.cond rfl (fun hc => ?_) (fun hc => ?_)
      | refine PW.regQ [1] ?_
      | refine PW.sdrawG kt_20 sc_20 [1] hmix (by kernel_rfl) (fun K hK => ?_)
      | refine PW.drawG sc_20 [1] hmix (by kernel_rfl) (fun K hK => ?_)
      | refine PW.label ?_
      | omega
      | (split <;> first | contradiction | skip)
  | true =>
    cases q2 : inV s 1 (mm2 false 60 p) with
    | false =>
      have hr : drawnOk p s f = false := by simp [drawnOk, q1, q2]
      rw [hr]
      refine spec_of (nt := 24) (rs := [.tmp 2]) Try.func20 rfl rfl rfl rfl (by simp) (by simp [np]) (fun B => ?_)
      repeat' first
        | exact True.intro
        | refine runQ_step (fun K hK => ?_)
        | refine runQ_end ?_
        | refine PW.sregN kt_20 [1] (fun K hK => ?_)
        | simp only [push_cast, ↓reduceIte, Nat.reduceAdd, Nat.reduceSub, Nat.reduceMul, Nat.reduceEqDiff, Nat.reduceLT, Nat.reduceLeDiff, Int.reduceToNat, reduceCtorEq, Int.reduceEq, Int.reduceLT, Int.reduceLE, Int.reduceAdd, Int.reduceSub, Int.reduceMul, Int.reduceNeg, MV.top, kt_20, ti1, ti2, ti3, ti4, ti27, ti32, eqt27, q1, q2, whenV]
        | refine And.intro ?_ ?_
        | (refine hK _ ?_; clear hK K)
        | (refine hK _ ?_ ?_ <;> clear hK K)
        | apply_assumption (exfalso := false) (symm := false) only [*]
        | refine runQ_gC rfl (fun K hK => ?_)
        | refine runQ_gS rfl rfl ?_
        | refine runQ_gU rfl rfl ?_
        | (refine runQ_gT rfl (fun hc K hK => ?_) (fun hc => ?_) <;> first | (exfalso; omega) | skip)
        | (refine runQ_gF rfl (fun hc K hK => ?_) (fun hc => ?_) <;> first | (exfalso; omega) | skip)
        | refine runQ_guard rfl (fun hc K hK => ?_) (fun hc => ?_)
        | refine calP_lent rfl rfl (rin_spec _ _ _) rfl ?_
        | refine PW.seq (fun K hK => ?_)
        | refine PW.ret ?_
        | refine PW.skip ?_
        | refine PW.exit ?_
        | refine PW.block ?_
        | refine PW.condT rfl ?_
        | refine PW.condF rfl ?_
        | (refine PW.condD rfl (fun hc => ?_) (fun hc => ?_) <;> first | (exfalso; omega) | skip)
        | (refine PW.condN rfl (fun hc => ?_) (fun hc => ?_) <;> first | (exfalso; omega) | skip)
        | refine PW.cond rfl (fun hc => ?_) (fun hc => ?_)
        | refine PW.regQ [1] ?_
        | refine PW.sdrawG kt_20 sc_20 [1] hmix (by kernel_rfl) (fun K hK => ?_)
        | refine PW.drawG sc_20 [1] hmix (by kernel_rfl) (fun K hK => ?_)
        | refine PW.label ?_
        | omega
        | (split <;> first | contradiction | skip)
    | true =>
      cases q3 : inV f 0 s with
      | false =>
        have hr : drawnOk p s f = false := by simp [drawnOk, q1, q2, q3]
        rw [hr]
        refine spec_of (nt := 24) (rs := [.tmp 2]) Try.func20 rfl rfl rfl rfl (by simp) (by simp [np]) (fun B => ?_)
        repeat' first
          | exact True.intro
          | refine runQ_step (fun K hK => ?_)
          | refine runQ_end ?_
          | refine PW.sregN kt_20 [1] (fun K hK => ?_)
          | simp only [push_cast, ↓reduceIte, Nat.reduceAdd, Nat.reduceSub, Nat.reduceMul, Nat.reduceEqDiff, Nat.reduceLT, Nat.reduceLeDiff, Int.reduceToNat, reduceCtorEq, Int.reduceEq, Int.reduceLT, Int.reduceLE, Int.reduceAdd, Int.reduceSub, Int.reduceMul, Int.reduceNeg, MV.top, kt_20, ti1, ti2, ti3, ti4, ti27, ti32, eqt27, q1, q2, q3, whenV]
          | refine And.intro ?_ ?_
          | (refine hK _ ?_; clear hK K)
          | (refine hK _ ?_ ?_ <;> clear hK K)
          | apply_assumption (exfalso := false) (symm := false) only [*]
          | refine runQ_gC rfl (fun K hK => ?_)
          | refine runQ_gS rfl rfl ?_
          | refine runQ_gU rfl rfl ?_
          | (refine runQ_gT rfl (fun hc K hK => ?_) (fun hc => ?_) <;> first | (exfalso; omega) | skip)
          | (refine runQ_gF rfl (fun hc K hK => ?_) (fun hc => ?_) <;> first | (exfalso; omega) | skip)
          | refine runQ_guard rfl (fun hc K hK => ?_) (fun hc => ?_)
          | refine calP_lent rfl rfl (rin_spec _ _ _) rfl ?_
          | refine PW.seq (fun K hK => ?_)
          | refine PW.ret ?_
          | refine PW.skip ?_
          | refine PW.exit ?_
          | refine PW.block ?_
          | refine PW.condT rfl ?_
          | refine PW.condF rfl ?_
          | (refine PW.condD rfl (fun hc => ?_) (fun hc => ?_) <;> first | (exfalso; omega) | skip)
          | (refine PW.condN rfl (fun hc => ?_) (fun hc => ?_) <;> first | (exfalso; omega) | skip)
          | refine PW.cond rfl (fun hc => ?_) (fun hc => ?_)
          | refine PW.regQ [1] ?_
          | refine PW.sdrawG kt_20 sc_20 [1] hmix (by kernel_rfl) (fun K hK => ?_)
          | refine PW.drawG sc_20 [1] hmix (by kernel_rfl) (fun K hK => ?_)
          | refine PW.label ?_
          | omega
          | (split <;> first | contradiction | skip)
      | true =>
        have hr : drawnOk p s f = true := by simp [drawnOk, q1, q2, q3]
        rw [hr]
        refine spec_of (nt := 24) (rs := [.tmp 2]) Try.func20 rfl rfl rfl rfl (by simp) (by simp [np]) (fun B => ?_)
        repeat' first
          | exact True.intro
          | refine runQ_step (fun K hK => ?_)
          | refine runQ_end ?_
          | refine PW.sregN kt_20 [1] (fun K hK => ?_)
          | simp only [push_cast, ↓reduceIte, Nat.reduceAdd, Nat.reduceSub, Nat.reduceMul, Nat.reduceEqDiff, Nat.reduceLT, Nat.reduceLeDiff, Int.reduceToNat, reduceCtorEq, Int.reduceEq, Int.reduceLT, Int.reduceLE, Int.reduceAdd, Int.reduceSub, Int.reduceMul, Int.reduceNeg, MV.top, kt_20, ti1, ti2, ti3, ti4, ti27, ti32, eqt27, q1, q2, q3, whenV]
          | refine And.intro ?_ ?_
          | (refine hK _ ?_; clear hK K)
          | (refine hK _ ?_ ?_ <;> clear hK K)
          | apply_assumption (exfalso := false) (symm := false) only [*]
          | refine runQ_gC rfl (fun K hK => ?_)
          | refine runQ_gS rfl rfl ?_
          | refine runQ_gU rfl rfl ?_
          | (refine runQ_gT rfl (fun hc K hK => ?_) (fun hc => ?_) <;> first | (exfalso; omega) | skip)
          | (refine runQ_gF rfl (fun hc K hK => ?_) (fun hc => ?_) <;> first | (exfalso; omega) | skip)
          | refine runQ_guard rfl (fun hc K hK => ?_) (fun hc => ?_)
          | refine calP_lent rfl rfl (rin_spec _ _ _) rfl ?_
          | refine PW.seq (fun K hK => ?_)
          | refine PW.ret ?_
          | refine PW.skip ?_
          | refine PW.exit ?_
          | refine PW.block ?_
          | refine PW.condT rfl ?_
          | refine PW.condF rfl ?_
          | (refine PW.condD rfl (fun hc => ?_) (fun hc => ?_) <;> first | (exfalso; omega) | skip)
          | (refine PW.condN rfl (fun hc => ?_) (fun hc => ?_) <;> first | (exfalso; omega) | skip)
          | refine PW.cond rfl (fun hc => ?_) (fun hc => ?_)
          | refine PW.regQ [1] ?_
          | refine PW.sdrawG kt_20 sc_20 [1] hmix (by kernel_rfl) (fun K hK => ?_)
          | refine PW.drawG sc_20 [1] hmix (by kernel_rfl) (fun K hK => ?_)
          | refine PW.label ?_
          | omega
          | (split <;> first | contradiction | skip)

/-- What is read later. -/
def kt_21 : List (Nat × List Nat) := [(0, [0]), (1, [0, 5, 6, 7]), (2, [0, 5, 6, 7, 8]), (3, [0, 4, 5, 6, 7]), (4, [0, 4, 5, 6, 7, 12]), (5, [2]), (6, [0, 5, 6, 7]), (7, [2])]
theorem wrongOr_spec (es : List Int) (hl : es.length < 4611686018427387904) : Spec Try.prog 21 [ints es] [(none, .int .i64 (firstV es))] := by
  refine spec_of (nt := 15) (rs := [.tmp 2]) Try.func21 rfl rfl rfl rfl (by simp) (by simp [np]) (fun B => ?_)
  unfold ints
  repeat' first
    | exact True.intro
    | refine runQ_step (fun K hK => ?_)
    | refine runQ_end ?_
    | refine PW.sregN kt_21 [] (fun K hK => ?_)
    | simp only [push_cast, ↓reduceIte, Nat.reduceAdd, Nat.reduceSub, Nat.reduceMul, Nat.reduceEqDiff, Nat.reduceLT, Nat.reduceLeDiff, Int.reduceToNat, reduceCtorEq, Int.reduceEq, Int.reduceLT, Int.reduceLE, Int.reduceAdd, Int.reduceSub, Int.reduceMul, Int.reduceNeg, MV.top, kt_21, ti3, ti4, ti32, ti97, List.length_map]
    | refine And.intro ?_ ?_
    | (refine hK _ ?_; clear hK K)
    | (refine hK _ ?_ ?_ <;> clear hK K)
    | apply_assumption (exfalso := false) (symm := false) only [*]
    | refine PW.seq (fun K hK => ?_)
    | refine PW.ret ?_
    | refine PW.skip ?_
    | refine PW.exit ?_
    | refine PW.block ?_
    | refine PW.condT rfl ?_
    | refine PW.condF rfl ?_
    | (refine PW.condD rfl (fun hc => ?_) (fun hc => ?_) <;> first | (exfalso; omega) | skip)
    | (refine PW.condN rfl (fun hc => ?_) (fun hc => ?_) <;> first | (exfalso; omega) | skip)
    | refine PW.cond rfl (fun hc => ?_) (fun hc => ?_)
    | refine PW.regQ [] ?_
    | refine PW.sdrawG kt_21 sc_21 [] hmix (by kernel_rfl) (fun K hK => ?_)
    | refine PW.drawG sc_21 [] hmix (by kernel_rfl) (fun K hK => ?_)
    | refine PW.label ?_
    | omega
    | (split <;> first | contradiction | skip)
  refine PW.loopN [5, 6, 7] (fun i : Nat => ⟨[(5, .sh (.list (es.map fun x => [.int .i64 x]))), (6, .sh (.int .i64 es.length)), (7, .sh (.int .i64 (i : Int)))], B⟩) (fun i => i ≤ es.length ∧ firstV (es.drop i) = firstV es) (fun i => es.length - i) 0 ?_ ⟨Nat.zero_le _, rfl⟩ (fun i hi => ?_)
  · simp only [push_cast, ↓reduceIte, Nat.reduceAdd, Nat.reduceSub, Nat.reduceMul, Nat.reduceEqDiff, Nat.reduceLT, Nat.reduceLeDiff, Int.reduceToNat, reduceCtorEq, Int.reduceEq, Int.reduceLT, Int.reduceLE, Int.reduceAdd, Int.reduceSub, Int.reduceMul, Int.reduceNeg, MV.top, kt_21, ti3, ti4, ti32, ti97]
  obtain ⟨h1, h2⟩ := hi
  by_cases hlt : i < es.length
  · have hge := ints_get hlt
    have hd := firstV_drop hlt
    have hlt2 : (i : Int) < es.length := by omega
    repeat' first
      | exact True.intro
      | refine runQ_step (fun K hK => ?_)
      | refine runQ_end ?_
      | refine PW.sregN kt_21 [] (fun K hK => ?_)
      | simp only [push_cast, ↓reduceIte, Nat.reduceAdd, Nat.reduceSub, Nat.reduceMul, Nat.reduceEqDiff, Nat.reduceLT, Nat.reduceLeDiff, Int.reduceToNat, reduceCtorEq, Int.reduceEq, Int.reduceLT, Int.reduceLE, Int.reduceAdd, Int.reduceSub, Int.reduceMul, Int.reduceNeg, MV.top, kt_21, ti3, ti4, ti32, ti97, hge, hlt2, Int.toNat_natCast, List.length_map]
      | refine And.intro ?_ ?_
      | (refine hK _ ?_; clear hK K)
      | (refine hK _ ?_ ?_ <;> clear hK K)
      | apply_assumption (exfalso := false) (symm := false) only [*]
      | refine PW.seq (fun K hK => ?_)
      | refine PW.ret ?_
      | refine PW.skip ?_
      | refine PW.exit ?_
      | refine PW.block ?_
      | refine PW.condT rfl ?_
      | refine PW.condF rfl ?_
      | (refine PW.condD rfl (fun hc => ?_) (fun hc => ?_) <;> first | (exfalso; omega) | skip)
      | (refine PW.condN rfl (fun hc => ?_) (fun hc => ?_) <;> first | (exfalso; omega) | skip)
      | refine PW.cond rfl (fun hc => ?_) (fun hc => ?_)
      | refine PW.regQ [] ?_
      | refine PW.sdrawG kt_21 sc_21 [] hmix (by kernel_rfl) (fun K hK => ?_)
      | refine PW.drawG sc_21 [] hmix (by kernel_rfl) (fun K hK => ?_)
      | refine PW.label ?_
      | omega
      | (split <;> first | contradiction | skip)
    rw [hd, if_pos hc] at h2
    exact ⟨i + 1, by rw [wrap_nat (by omega)], ⟨by omega, h2⟩, by omega⟩
  · have hlt2 : ¬ (i : Int) < es.length := by omega
    repeat' first
      | exact True.intro
      | refine runQ_step (fun K hK => ?_)
      | refine runQ_end ?_
      | refine PW.sregN kt_21 [] (fun K hK => ?_)
      | simp only [push_cast, ↓reduceIte, Nat.reduceAdd, Nat.reduceSub, Nat.reduceMul, Nat.reduceEqDiff, Nat.reduceLT, Nat.reduceLeDiff, Int.reduceToNat, reduceCtorEq, Int.reduceEq, Int.reduceLT, Int.reduceLE, Int.reduceAdd, Int.reduceSub, Int.reduceMul, Int.reduceNeg, MV.top, kt_21, ti3, ti4, ti32, ti97, hlt2]
      | refine And.intro ?_ ?_
      | (refine hK _ ?_; clear hK K)
      | (refine hK _ ?_ ?_ <;> clear hK K)
      | apply_assumption (exfalso := false) (symm := false) only [*]
      | refine PW.seq (fun K hK => ?_)
      | refine PW.ret ?_
      | refine PW.skip ?_
      | refine PW.exit ?_
      | refine PW.block ?_
      | refine PW.condT rfl ?_
      | refine PW.condF rfl ?_
      | (refine PW.condD rfl (fun hc => ?_) (fun hc => ?_) <;> first | (exfalso; omega) | skip)
      | (refine PW.condN rfl (fun hc => ?_) (fun hc => ?_) <;> first | (exfalso; omega) | skip)
      | refine PW.cond rfl (fun hc => ?_) (fun hc => ?_)
      | refine PW.regQ [] ?_
      | refine PW.sdrawG kt_21 sc_21 [] hmix (by kernel_rfl) (fun K hK => ?_)
      | refine PW.drawG sc_21 [] hmix (by kernel_rfl) (fun K hK => ?_)
      | refine PW.label ?_
      | omega
      | (split <;> first | contradiction | skip)
    rw [List.drop_of_length_le (by omega)] at h2; exact h2
end Go.Pv

