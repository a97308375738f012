/- Contracts of keys and hashes. -/
import Derived.Test.YtoakchnegkmepaaF4
set_option linter.unusedSimpArgs false
set_option linter.unusedVariables false
set_option maxRecDepth 100000
set_option maxHeartbeats 4000000
namespace Go.Pv
open Go Go.Proofs
attribute [local irreducible] PW Dr DrS DrN DrG DrH Spec SpecB runQ opP calP gdP Still

/-- The bytes of a string as numbers. -/
def bl (s : ByteArray) : List Int := s.data.toList.map fun b => (b.toNat : Int)
theorem bl_len (s : ByteArray) : (bl s).length = s.size := by simp [bl]
theorem bl_get {s : ByteArray} {i : Nat} (h : i < s.size) : bAt s i = (bl s)[i]'(by rw [bl_len]; exact h) := by
  have h2 : i < s.data.size := h
  simp [bl, bAt, Array.getElem?_eq_getElem h2]
theorem byteRow_bl {s : ByteArray} {i : Nat} (h : i < (bl s).length) : (byteRow s)[i]? = some [.int .u8 (bl s)[i]] := by
  rw [bl_len] at h
  have h2 : i < s.data.size := h
  simp [byteRow_get, bl, Array.getElem?_eq_getElem h2]

def smallV (c : Int) : Bool := decide (97 ≤ c ∧ c ≤ 122)
def digitV (c : Int) : Bool := decide (48 ≤ c ∧ c ≤ 57)

/-- What is read later. -/
def kt_129 : List (Nat × List Nat) := [(0, [0]), (1, [2])]
theorem small_spec (c : Int) : Spec Try.prog 129 [.int .u8 c] [(none, .bool (smallV c))] := by
  refine spec_of (nt := 9) (rs := [.tmp 2]) Try.func129 rfl rfl rfl rfl (by simp) (by simp [np]) (fun B => ?_)
  repeat' first
    | exact True.intro
    | refine runQ_step (fun K hK => ?_)
    | refine runQ_end ?_
    | refine PW.sregN kt_129 [] (fun K hK => ?_)
    | simp only [push_cast, ↓reduceIte, Nat.reduceAdd, Nat.reduceSub, Nat.reduceMul, Nat.reduceEqDiff, Nat.reduceLT, Nat.reduceLeDiff, Int.reduceToNat, reduceCtorEq, Int.reduceEq, Int.reduceLT, Int.reduceLE, Int.reduceAdd, Int.reduceSub, Int.reduceMul, Int.reduceNeg, MV.top, kt_129, ti4, ti5]
    | refine And.intro ?_ ?_
    | (refine hK _ ?_; clear hK K)
    | (refine hK _ ?_ ?_ <;> clear hK K)
    | apply_assumption (exfalso := false) (symm := false) only [*]
    | refine runQ_gC rfl (fun K hK => ?_)
    | refine runQ_gS rfl rfl ?_
    | refine runQ_gU rfl rfl ?_
    | (refine runQ_gT rfl (fun hc K hK => ?_) (fun hc => ?_) <;> first | (exfalso; omega) | skip)
    | (refine runQ_gF rfl (fun hc K hK => ?_) (fun hc => ?_) <;> first | (exfalso; omega) | skip)
    | refine runQ_guard rfl (fun hc K hK => ?_) (fun hc => ?_)
    | refine PW.seq (fun K hK => ?_)
    | refine PW.ret ?_
    | refine PW.skip ?_
    | refine PW.exit ?_
    | refine PW.block ?_
    | refine PW.condT rfl ?_
    | refine PW.condF rfl ?_
    | (refine PW.condD rfl (fun hc => ?_) (fun hc => ?_) <;> first | (exfalso; omega) | skip)
    | (refine PW.condN rfl (fun hc => ?_) (fun hc => ?_) <;> first | (exfalso; omega) | skip)
    | refine PW.cond rfl (fun hc => ?_) (fun hc => ?_)
    | refine PW.regQ [] ?_
    | refine PW.sdrawG kt_129 sc_129 [] hmix (by kernel_rfl) (fun K hK => ?_)
    | refine PW.drawG sc_129 [] hmix (by kernel_rfl) (fun K hK => ?_)
    | refine PW.label ?_
    | omega
    | (split <;> first | contradiction | skip)
  all_goals (unfold smallV; simp [*])

/-- What is read later. -/
def kt_130 : List (Nat × List Nat) := [(0, [0]), (1, [2])]
theorem Digit_spec (c : Int) : Spec Try.prog 130 [.int .u8 c] [(none, .bool (digitV c))] := by
  refine spec_of (nt := 9) (rs := [.tmp 2]) Try.func130 rfl rfl rfl rfl (by simp) (by simp [np]) (fun B => ?_)
  repeat' first
    | exact True.intro
    | refine runQ_step (fun K hK => ?_)
    | refine runQ_end ?_
    | refine PW.sregN kt_130 [] (fun K hK => ?_)
    | simp only [push_cast, ↓reduceIte, Nat.reduceAdd, Nat.reduceSub, Nat.reduceMul, Nat.reduceEqDiff, Nat.reduceLT, Nat.reduceLeDiff, Int.reduceToNat, reduceCtorEq, Int.reduceEq, Int.reduceLT, Int.reduceLE, Int.reduceAdd, Int.reduceSub, Int.reduceMul, Int.reduceNeg, MV.top, kt_130, ti4, ti5]
    | refine And.intro ?_ ?_
    | (refine hK _ ?_; clear hK K)
    | (refine hK _ ?_ ?_ <;> clear hK K)
    | apply_assumption (exfalso := false) (symm := false) only [*]
    | refine runQ_gC rfl (fun K hK => ?_)
    | refine runQ_gS rfl rfl ?_
    | refine runQ_gU rfl rfl ?_
    | (refine runQ_gT rfl (fun hc K hK => ?_) (fun hc => ?_) <;> first | (exfalso; omega) | skip)
    | (refine runQ_gF rfl (fun hc K hK => ?_) (fun hc => ?_) <;> first | (exfalso; omega) | skip)
    | refine runQ_guard rfl (fun hc K hK => ?_) (fun hc => ?_)
    | refine PW.seq (fun K hK => ?_)
    | refine PW.ret ?_
    | refine PW.skip ?_
    | refine PW.exit ?_
    | refine PW.block ?_
    | refine PW.condT rfl ?_
    | refine PW.condF rfl ?_
    | (refine PW.condD rfl (fun hc => ?_) (fun hc => ?_) <;> first | (exfalso; omega) | skip)
    | (refine PW.condN rfl (fun hc => ?_) (fun hc => ?_) <;> first | (exfalso; omega) | skip)
    | refine PW.cond rfl (fun hc => ?_) (fun hc => ?_)
    | refine PW.regQ [] ?_
    | refine PW.sdrawG kt_130 sc_130 [] hmix (by kernel_rfl) (fun K hK => ?_)
    | refine PW.drawG sc_130 [] hmix (by kernel_rfl) (fun K hK => ?_)
    | refine PW.label ?_
    | omega
    | (split <;> first | contradiction | skip)
  all_goals (unfold digitV; simp [*])

def keyC (c : Int) : Bool := smallV c || digitV c || decide (c = 45) || decide (c = 95)
def keyV (s : ByteArray) : Bool := decide (1 ≤ (bl s).length ∧ (bl s).length ≤ 40) && smallV ((bl s).headD 0) && (bl s).all keyC

theorem all_drop {p : Int → Bool} {xs : List Int} {i : Nat} (h : i < xs.length) : (xs.drop i).all p = (p xs[i] && (xs.drop (i + 1)).all p) := by
  rw [List.drop_eq_getElem_cons h]; rfl

/-- What is read later. -/
def kt_125 : List (Nat × List Nat) := [(0, [0]), (1, [0, 14]), (2, [2]), (3, [0, 16, 17]), (4, [0, 16, 17, 18]), (5, [0, 3, 16, 17]), (6, [0, 4, 16, 17]), (7, [0, 16, 17, 38]), (8, [2]), (9, [0, 16, 17]), (10, [2])]
theorem Key_spec (s : ByteArray) (hs : s.size < 4611686018427387904) : Spec Try.prog 125 [.str s] [(none, .bool (keyV s))] := by
  by_cases hk : 1 ≤ (bl s).length ∧ (bl s).length ≤ 40
  · rw [bl_len] at hk
    have hb0 : bAt s 0 = (bl s).headD 0 := by
      rw [bl_get (by omega)]
      have : 0 < (bl s).length := by rw [bl_len]; omega
      rw [List.headD_eq_head?_getD, List.head?_eq_getElem?, List.getElem?_eq_getElem this]; rfl
    have hin : inV (s.size : Int) 1 40 = true := by simp [inV]; omega
    have hpos : (0 : Int) < s.size := by omega
    cases h0 : smallV ((bl s).headD 0) with
    | false =>
      have hc1 := small_spec ((bl s).headD 0)
      rw [h0] at hc1
      have hres : keyV s = false := by unfold keyV; rw [h0]; simp
      rw [hres]
      refine spec_of (nt := 40) (rs := [.tmp 2]) Try.func125 rfl rfl rfl rfl (by simp) (by simp [np]) (fun B => ?_)
      repeat' first
        | exact True.intro
        | refine runQ_step (fun K hK => ?_)
        | refine runQ_end ?_
        | refine PW.sregN kt_125 [] (fun K hK => ?_)
        | simp only [push_cast, ↓reduceIte, Nat.reduceAdd, Nat.reduceSub, Nat.reduceMul, Nat.reduceEqDiff, Nat.reduceLT, Nat.reduceLeDiff, Int.reduceToNat, reduceCtorEq, Int.reduceEq, Int.reduceLT, Int.reduceLE, Int.reduceAdd, Int.reduceSub, Int.reduceMul, Int.reduceNeg, MV.top, kt_125, ti3, ti4, ti5, ti9, hb0, hin, hpos]
        | refine And.intro ?_ ?_
        | (refine hK _ ?_; clear hK K)
        | (refine hK _ ?_ ?_ <;> clear hK K)
        | apply_assumption (exfalso := false) (symm := false) only [*]
        | refine runQ_gC rfl (fun K hK => ?_)
        | refine runQ_gS rfl rfl ?_
        | refine runQ_gU rfl rfl ?_
        | (refine runQ_gT rfl (fun hc K hK => ?_) (fun hc => ?_) <;> first | (exfalso; omega) | skip)
        | (refine runQ_gF rfl (fun hc K hK => ?_) (fun hc => ?_) <;> first | (exfalso; omega) | skip)
        | refine runQ_guard rfl (fun hc K hK => ?_) (fun hc => ?_)
        | refine calP_lent rfl rfl (In_spec _ _ _) rfl ?_
        | refine calP_lent rfl rfl hc1 rfl ?_
        | refine PW.seq (fun K hK => ?_)
        | refine PW.ret ?_
        | refine PW.skip ?_
        | refine PW.exit ?_
        | refine PW.block ?_
        | refine PW.condT rfl ?_
        | refine PW.condF rfl ?_
        | (refine PW.condD rfl (fun hc => ?_) (fun hc => ?_) <;> first | (exfalso; omega) | skip)
        | (refine PW.condN rfl (fun hc => ?_) (fun hc => ?_) <;> first | (exfalso; omega) | skip)
        | refine PW.cond rfl (fun hc => ?_) (fun hc => ?_)
        | refine PW.regQ [] ?_
        | refine PW.sdrawG kt_125 sc_125 [] hmix (by kernel_rfl) (fun K hK => ?_)
        | refine PW.drawG sc_125 [] hmix (by kernel_rfl) (fun K hK => ?_)
        | refine PW.label ?_
        | omega
        | (split <;> first | contradiction | skip)
    | true =>
      have hc1 := small_spec ((bl s).headD 0)
      rw [h0] at hc1
      have hres : keyV s = (bl s).all keyC := by unfold keyV; rw [h0, decide_eq_true (by rw [bl_len]; exact hk)]; simp
      rw [hres]
      refine spec_of (nt := 40) (rs := [.tmp 2]) Try.func125 rfl rfl rfl rfl (by simp) (by simp [np]) (fun B => ?_)
      repeat' first
        | exact True.intro
        | refine runQ_step (fun K hK => ?_)
        | refine runQ_end ?_
        | refine PW.sregN kt_125 [] (fun K hK => ?_)
        | simp only [push_cast, ↓reduceIte, Nat.reduceAdd, Nat.reduceSub, Nat.reduceMul, Nat.reduceEqDiff, Nat.reduceLT, Nat.reduceLeDiff, Int.reduceToNat, reduceCtorEq, Int.reduceEq, Int.reduceLT, Int.reduceLE, Int.reduceAdd, Int.reduceSub, Int.reduceMul, Int.reduceNeg, MV.top, kt_125, ti3, ti4, ti5, ti9, hb0, hin, hpos]
        | refine And.intro ?_ ?_
        | (refine hK _ ?_; clear hK K)
        | (refine hK _ ?_ ?_ <;> clear hK K)
        | apply_assumption (exfalso := false) (symm := false) only [*]
        | refine runQ_gC rfl (fun K hK => ?_)
        | refine runQ_gS rfl rfl ?_
        | refine runQ_gU rfl rfl ?_
        | (refine runQ_gT rfl (fun hc K hK => ?_) (fun hc => ?_) <;> first | (exfalso; omega) | skip)
        | (refine runQ_gF rfl (fun hc K hK => ?_) (fun hc => ?_) <;> first | (exfalso; omega) | skip)
        | refine runQ_guard rfl (fun hc K hK => ?_) (fun hc => ?_)
        | refine calP_lent rfl rfl (In_spec _ _ _) rfl ?_
        | refine calP_lent rfl rfl hc1 rfl ?_
        | refine PW.seq (fun K hK => ?_)
        | refine PW.ret ?_
        | refine PW.skip ?_
        | refine PW.exit ?_
        | refine PW.block ?_
        | refine PW.condT rfl ?_
        | refine PW.condF rfl ?_
        | (refine PW.condD rfl (fun hc => ?_) (fun hc => ?_) <;> first | (exfalso; omega) | skip)
        | (refine PW.condN rfl (fun hc => ?_) (fun hc => ?_) <;> first | (exfalso; omega) | skip)
        | refine PW.cond rfl (fun hc => ?_) (fun hc => ?_)
        | refine PW.regQ [] ?_
        | refine PW.sdrawG kt_125 sc_125 [] hmix (by kernel_rfl) (fun K hK => ?_)
        | refine PW.drawG sc_125 [] hmix (by kernel_rfl) (fun K hK => ?_)
        | refine PW.label ?_
        | omega
        | (split <;> first | contradiction | skip)
      refine PW.loopN [0, 16, 17] (fun i : Nat => ⟨[(0, .sh (.str s)), (16, .sh (.int .i64 s.size)), (17, .sh (.int .i64 (i : Int)))], B⟩) (fun i => i ≤ s.size ∧ ((bl s).drop i).all keyC = (bl s).all keyC) (fun i => s.size - i) 0 ?_ ⟨Nat.zero_le _, rfl⟩ (fun i hi => ?_)
      · simp only [push_cast, ↓reduceIte, Nat.reduceAdd, Nat.reduceSub, Nat.reduceMul, Nat.reduceEqDiff, Nat.reduceLT, Nat.reduceLeDiff, Int.reduceToNat, reduceCtorEq, Int.reduceEq, Int.reduceLT, Int.reduceLE, Int.reduceAdd, Int.reduceSub, Int.reduceMul, Int.reduceNeg, MV.top, kt_125, ti3, ti4, ti5, ti9]
      clear hc1 hb0 hres hin hpos
      obtain ⟨h1, h2⟩ := hi
      by_cases hlt : i < s.size
      · have hb := bl_get hlt
        have hlt2 : (i : Int) < s.size := by omega
        rw [all_drop (by rw [bl_len]; exact hlt)] at h2
        generalize (bl s)[i]'(by rw [bl_len]; exact hlt) = c at hb h2
        have hw := wrap_nat (i := i) (by omega)
        have fin : keyC c = true ∨ keyC c = false := by cases keyC c <;> simp
        cases q1 : smallV c with
        | true =>
          have hk1 : keyC c = true := by simp [keyC, q1]
          repeat' first
            | exact True.intro
            | refine runQ_step (fun K hK => ?_)
            | refine runQ_end ?_
            | refine PW.sregN kt_125 [] (fun K hK => ?_)
            | simp only [push_cast, ↓reduceIte, Nat.reduceAdd, Nat.reduceSub, Nat.reduceMul, Nat.reduceEqDiff, Nat.reduceLT, Nat.reduceLeDiff, Int.reduceToNat, reduceCtorEq, Int.reduceEq, Int.reduceLT, Int.reduceLE, Int.reduceAdd, Int.reduceSub, Int.reduceMul, Int.reduceNeg, MV.top, kt_125, ti3, ti4, ti5, ti9, hb, hlt2, Int.toNat_natCast, q1]
            | refine And.intro ?_ ?_
            | (refine hK _ ?_; clear hK K)
            | (refine hK _ ?_ ?_ <;> clear hK K)
            | apply_assumption (exfalso := false) (symm := false) only [*]
            | refine runQ_gC rfl (fun K hK => ?_)
            | refine runQ_gS rfl rfl ?_
            | refine runQ_gU rfl rfl ?_
            | (refine runQ_gT rfl (fun hc K hK => ?_) (fun hc => ?_) <;> first | (exfalso; omega) | skip)
            | (refine runQ_gF rfl (fun hc K hK => ?_) (fun hc => ?_) <;> first | (exfalso; omega) | skip)
            | refine runQ_guard rfl (fun hc K hK => ?_) (fun hc => ?_)
            | refine calP_lent rfl rfl (small_spec _) rfl ?_
            | refine calP_lent rfl rfl (Digit_spec _) rfl ?_
            | refine PW.seq (fun K hK => ?_)
            | refine PW.ret ?_
            | refine PW.skip ?_
            | refine PW.exit ?_
            | refine PW.block ?_
            | refine PW.condT rfl ?_
            | refine PW.condF rfl ?_
            | (refine PW.condD rfl (fun hc => ?_) (fun hc => ?_) <;> first | (exfalso; omega) | skip)
            | (refine PW.condN rfl (fun hc => ?_) (fun hc => ?_) <;> first | (exfalso; omega) | skip)
            | refine PW.cond rfl (fun hc => ?_) (fun hc => ?_)
            | refine PW.regQ [] ?_
            | refine PW.sdrawG kt_125 sc_125 [] hmix (by kernel_rfl) (fun K hK => ?_)
            | refine PW.drawG sc_125 [] hmix (by kernel_rfl) (fun K hK => ?_)
            | refine PW.label ?_
            | omega
            | (split <;> first | contradiction | skip)
          all_goals first | exact ⟨i + 1, by rw [hw], ⟨by omega, by rw [hk1] at h2; simpa using h2⟩, by omega⟩ | (rw [hk1] at h2; simpa using h2)
        | false =>
          cases q2 : digitV c with
          | true =>
            have hk1 : keyC c = true := by simp [keyC, q2]
            repeat' first
              | exact True.intro
              | refine runQ_step (fun K hK => ?_)
              | refine runQ_end ?_
              | refine PW.sregN kt_125 [] (fun K hK => ?_)
              | simp only [push_cast, ↓reduceIte, Nat.reduceAdd, Nat.reduceSub, Nat.reduceMul, Nat.reduceEqDiff, Nat.reduceLT, Nat.reduceLeDiff, Int.reduceToNat, reduceCtorEq, Int.reduceEq, Int.reduceLT, Int.reduceLE, Int.reduceAdd, Int.reduceSub, Int.reduceMul, Int.reduceNeg, MV.top, kt_125, ti3, ti4, ti5, ti9, hb, hlt2, Int.toNat_natCast, q1, q2]
              | refine And.intro ?_ ?_
              | (refine hK _ ?_; clear hK K)
              | (refine hK _ ?_ ?_ <;> clear hK K)
              | apply_assumption (exfalso := false) (symm := false) only [*]
              | refine runQ_gC rfl (fun K hK => ?_)
              | refine runQ_gS rfl rfl ?_
              | refine runQ_gU rfl rfl ?_
              | (refine runQ_gT rfl (fun hc K hK => ?_) (fun hc => ?_) <;> first | (exfalso; omega) | skip)
              | (refine runQ_gF rfl (fun hc K hK => ?_) (fun hc => ?_) <;> first | (exfalso; omega) | skip)
              | refine runQ_guard rfl (fun hc K hK => ?_) (fun hc => ?_)
              | refine calP_lent rfl rfl (small_spec _) rfl ?_
              | refine calP_lent rfl rfl (Digit_spec _) rfl ?_
              | refine PW.seq (fun K hK => ?_)
              | refine PW.ret ?_
              | refine PW.skip ?_
              | refine PW.exit ?_
              | refine PW.block ?_
              | refine PW.condT rfl ?_
              | refine PW.condF rfl ?_
              | (refine PW.condD rfl (fun hc => ?_) (fun hc => ?_) <;> first | (exfalso; omega) | skip)
              | (refine PW.condN rfl (fun hc => ?_) (fun hc => ?_) <;> first | (exfalso; omega) | skip)
              | refine PW.cond rfl (fun hc => ?_) (fun hc => ?_)
              | refine PW.regQ [] ?_
              | refine PW.sdrawG kt_125 sc_125 [] hmix (by kernel_rfl) (fun K hK => ?_)
              | refine PW.drawG sc_125 [] hmix (by kernel_rfl) (fun K hK => ?_)
              | refine PW.label ?_
              | omega
              | (split <;> first | contradiction | skip)
            all_goals first | exact ⟨i + 1, by rw [hw], ⟨by omega, by rw [hk1] at h2; simpa using h2⟩, by omega⟩ | (rw [hk1] at h2; simpa using h2)
          | false =>
            by_cases q3 : c = 45
            · have hk1 : keyC c = true := by simp [keyC, q3]
              have q4 := eq_true q3
              clear q3
              repeat' first
                | exact True.intro
                | refine runQ_step (fun K hK => ?_)
                | refine runQ_end ?_
                | refine PW.sregN kt_125 [] (fun K hK => ?_)
                | simp only [push_cast, ↓reduceIte, Nat.reduceAdd, Nat.reduceSub, Nat.reduceMul, Nat.reduceEqDiff, Nat.reduceLT, Nat.reduceLeDiff, Int.reduceToNat, reduceCtorEq, Int.reduceEq, Int.reduceLT, Int.reduceLE, Int.reduceAdd, Int.reduceSub, Int.reduceMul, Int.reduceNeg, MV.top, kt_125, ti3, ti4, ti5, ti9, hb, hlt2, Int.toNat_natCast, q1, q2, q4]
                | refine And.intro ?_ ?_
                | (refine hK _ ?_; clear hK K)
                | (refine hK _ ?_ ?_ <;> clear hK K)
                | apply_assumption (exfalso := false) (symm := false) only [*]
                | refine runQ_gC rfl (fun K hK => ?_)
                | refine runQ_gS rfl rfl ?_
                | refine runQ_gU rfl rfl ?_
                | (refine runQ_gT rfl (fun hc K hK => ?_) (fun hc => ?_) <;> first | (exfalso; omega) | skip)
                | (refine runQ_gF rfl (fun hc K hK => ?_) (fun hc => ?_) <;> first | (exfalso; omega) | skip)
                | refine runQ_guard rfl (fun hc K hK => ?_) (fun hc => ?_)
                | refine calP_lent rfl rfl (small_spec _) rfl ?_
                | refine calP_lent rfl rfl (Digit_spec _) rfl ?_
                | refine PW.seq (fun K hK => ?_)
                | refine PW.ret ?_
                | refine PW.skip ?_
                | refine PW.exit ?_
                | refine PW.block ?_
                | refine PW.condT rfl ?_
                | refine PW.condF rfl ?_
                | (refine PW.condD rfl (fun hc => ?_) (fun hc => ?_) <;> first | (exfalso; omega) | skip)
                | (refine PW.condN rfl (fun hc => ?_) (fun hc => ?_) <;> first | (exfalso; omega) | skip)
                | refine PW.cond rfl (fun hc => ?_) (fun hc => ?_)
                | refine PW.regQ [] ?_
                | refine PW.sdrawG kt_125 sc_125 [] hmix (by kernel_rfl) (fun K hK => ?_)
                | refine PW.drawG sc_125 [] hmix (by kernel_rfl) (fun K hK => ?_)
                | refine PW.label ?_
                | omega
                | (split <;> first | contradiction | skip)
              all_goals first | exact ⟨i + 1, by rw [hw], ⟨by omega, by rw [hk1] at h2; simpa using h2⟩, by omega⟩ | (rw [hk1] at h2; simpa using h2)
            · by_cases q4 : c = 95
              · have hk1 : keyC c = true := by simp [keyC, q4]
                have q5 := eq_true q4
                clear q4
                repeat' first
                  | exact True.intro
                  | refine runQ_step (fun K hK => ?_)
                  | refine runQ_end ?_
                  | refine PW.sregN kt_125 [] (fun K hK => ?_)
                  | simp only [push_cast, ↓reduceIte, Nat.reduceAdd, Nat.reduceSub, Nat.reduceMul, Nat.reduceEqDiff, Nat.reduceLT, Nat.reduceLeDiff, Int.reduceToNat, reduceCtorEq, Int.reduceEq, Int.reduceLT, Int.reduceLE, Int.reduceAdd, Int.reduceSub, Int.reduceMul, Int.reduceNeg, MV.top, kt_125, ti3, ti4, ti5, ti9, hb, hlt2, Int.toNat_natCast, q1, q2, q3, q5]
                  | refine And.intro ?_ ?_
                  | (refine hK _ ?_; clear hK K)
                  | (refine hK _ ?_ ?_ <;> clear hK K)
                  | apply_assumption (exfalso := false) (symm := false) only [*]
                  | refine runQ_gC rfl (fun K hK => ?_)
                  | refine runQ_gS rfl rfl ?_
                  | refine runQ_gU rfl rfl ?_
                  | (refine runQ_gT rfl (fun hc K hK => ?_) (fun hc => ?_) <;> first | (exfalso; omega) | skip)
                  | (refine runQ_gF rfl (fun hc K hK => ?_) (fun hc => ?_) <;> first | (exfalso; omega) | skip)
                  | refine runQ_guard rfl (fun hc K hK => ?_) (fun hc => ?_)
                  | refine calP_lent rfl rfl (small_spec _) rfl ?_
                  | refine calP_lent rfl rfl (Digit_spec _) rfl ?_
                  | refine PW.seq (fun K hK => ?_)
                  | refine PW.ret ?_
                  | refine PW.skip ?_
                  | refine PW.exit ?_
                  | refine PW.block ?_
                  | refine PW.condT rfl ?_
                  | refine PW.condF rfl ?_
                  | (refine PW.condD rfl (fun hc => ?_) (fun hc => ?_) <;> first | (exfalso; omega) | skip)
                  | (refine PW.condN rfl (fun hc => ?_) (fun hc => ?_) <;> first | (exfalso; omega) | skip)
                  | refine PW.cond rfl (fun hc => ?_) (fun hc => ?_)
                  | refine PW.regQ [] ?_
                  | refine PW.sdrawG kt_125 sc_125 [] hmix (by kernel_rfl) (fun K hK => ?_)
                  | refine PW.drawG sc_125 [] hmix (by kernel_rfl) (fun K hK => ?_)
                  | refine PW.label ?_
                  | omega
                  | (split <;> first | contradiction | skip)
                all_goals first | exact ⟨i + 1, by rw [hw], ⟨by omega, by rw [hk1] at h2; simpa using h2⟩, by omega⟩ | (rw [hk1] at h2; simpa using h2)
              · have hk1 : keyC c = false := by simp [keyC, q1, q2, q3, q4]
                repeat' first
                  | exact True.intro
                  | refine runQ_step (fun K hK => ?_)
                  | refine runQ_end ?_
                  | refine PW.sregN kt_125 [] (fun K hK => ?_)
                  | simp only [push_cast, ↓reduceIte, Nat.reduceAdd, Nat.reduceSub, Nat.reduceMul, Nat.reduceEqDiff, Nat.reduceLT, Nat.reduceLeDiff, Int.reduceToNat, reduceCtorEq, Int.reduceEq, Int.reduceLT, Int.reduceLE, Int.reduceAdd, Int.reduceSub, Int.reduceMul, Int.reduceNeg, MV.top, kt_125, ti3, ti4, ti5, ti9, hb, hlt2, Int.toNat_natCast, q1, q2, q3, q4]
                  | refine And.intro ?_ ?_
                  | (refine hK _ ?_; clear hK K)
                  | (refine hK _ ?_ ?_ <;> clear hK K)
                  | apply_assumption (exfalso := false) (symm := false) only [*]
                  | refine runQ_gC rfl (fun K hK => ?_)
                  | refine runQ_gS rfl rfl ?_
                  | refine runQ_gU rfl rfl ?_
                  | (refine runQ_gT rfl (fun hc K hK => ?_) (fun hc => ?_) <;> first | (exfalso; omega) | skip)
                  | (refine runQ_gF rfl (fun hc K hK => ?_) (fun hc => ?_) <;> first | (exfalso; omega) | skip)
                  | refine runQ_guard rfl (fun hc K hK => ?_) (fun hc => ?_)
                  | refine calP_lent rfl rfl (small_spec _) rfl ?_
                  | refine calP_lent rfl rfl (Digit_spec _) rfl ?_
                  | refine PW.seq (fun K hK => ?_)
                  | refine PW.ret ?_
                  | refine PW.skip ?_
                  | refine PW.exit ?_
                  | refine PW.block ?_
                  | refine PW.condT rfl ?_
                  | refine PW.condF rfl ?_
                  | (refine PW.condD rfl (fun hc => ?_) (fun hc => ?_) <;> first | (exfalso; omega) | skip)
                  | (refine PW.condN rfl (fun hc => ?_) (fun hc => ?_) <;> first | (exfalso; omega) | skip)
                  | refine PW.cond rfl (fun hc => ?_) (fun hc => ?_)
                  | refine PW.regQ [] ?_
                  | refine PW.sdrawG kt_125 sc_125 [] hmix (by kernel_rfl) (fun K hK => ?_)
                  | refine PW.drawG sc_125 [] hmix (by kernel_rfl) (fun K hK => ?_)
                  | refine PW.label ?_
                  | omega
                  | (split <;> first | contradiction | skip)
                all_goals first | exact ⟨i + 1, by rw [hw], ⟨by omega, by rw [hk1] at h2; simpa using h2⟩, by omega⟩ | (rw [hk1] at h2; simpa using h2)
      · have hlt2 : ¬ (i : Int) < s.size := by omega
        rw [List.drop_of_length_le (by rw [bl_len]; omega)] at h2
        repeat' first
          | exact True.intro
          | refine runQ_step (fun K hK => ?_)
          | refine runQ_end ?_
          | refine PW.sregN kt_125 [] (fun K hK => ?_)
          | simp only [push_cast, ↓reduceIte, Nat.reduceAdd, Nat.reduceSub, Nat.reduceMul, Nat.reduceEqDiff, Nat.reduceLT, Nat.reduceLeDiff, Int.reduceToNat, reduceCtorEq, Int.reduceEq, Int.reduceLT, Int.reduceLE, Int.reduceAdd, Int.reduceSub, Int.reduceMul, Int.reduceNeg, MV.top, kt_125, ti3, ti4, ti5, ti9, hlt2]
          | refine And.intro ?_ ?_
          | (refine hK _ ?_; clear hK K)
          | (refine hK _ ?_ ?_ <;> clear hK K)
          | apply_assumption (exfalso := false) (symm := false) only [*]
          | refine runQ_gC rfl (fun K hK => ?_)
          | refine runQ_gS rfl rfl ?_
          | refine runQ_gU rfl rfl ?_
          | (refine runQ_gT rfl (fun hc K hK => ?_) (fun hc => ?_) <;> first | (exfalso; omega) | skip)
          | (refine runQ_gF rfl (fun hc K hK => ?_) (fun hc => ?_) <;> first | (exfalso; omega) | skip)
          | refine runQ_guard rfl (fun hc K hK => ?_) (fun hc => ?_)
          | refine PW.seq (fun K hK => ?_)
          | refine PW.ret ?_
          | refine PW.skip ?_
          | refine PW.exit ?_
          | refine PW.block ?_
          | refine PW.condT rfl ?_
          | refine PW.condF rfl ?_
          | (refine PW.condD rfl (fun hc => ?_) (fun hc => ?_) <;> first | (exfalso; omega) | skip)
          | (refine PW.condN rfl (fun hc => ?_) (fun hc => ?_) <;> first | (exfalso; omega) | skip)
          | refine PW.cond rfl (fun hc => ?_) (fun hc => ?_)
          | refine PW.regQ [] ?_
          | refine PW.sdrawG kt_125 sc_125 [] hmix (by kernel_rfl) (fun K hK => ?_)
          | refine PW.drawG sc_125 [] hmix (by kernel_rfl) (fun K hK => ?_)
          | refine PW.label ?_
          | omega
          | (split <;> first | contradiction | skip)
        all_goals simpa using h2
  · have hres : keyV s = false := by unfold keyV; rw [decide_eq_false hk]; simp
    have hin : inV (s.size : Int) 1 40 = false := by rw [bl_len] at hk; simp [inV]; omega
    rw [hres]
    refine spec_of (nt := 40) (rs := [.tmp 2]) Try.func125 rfl rfl rfl rfl (by simp) (by simp [np]) (fun B => ?_)
    repeat' first
      | exact True.intro
      | refine runQ_step (fun K hK => ?_)
      | refine runQ_end ?_
      | refine PW.sregN kt_125 [] (fun K hK => ?_)
      | simp only [push_cast, ↓reduceIte, Nat.reduceAdd, Nat.reduceSub, Nat.reduceMul, Nat.reduceEqDiff, Nat.reduceLT, Nat.reduceLeDiff, Int.reduceToNat, reduceCtorEq, Int.reduceEq, Int.reduceLT, Int.reduceLE, Int.reduceAdd, Int.reduceSub, Int.reduceMul, Int.reduceNeg, MV.top, kt_125, ti3, ti4, ti5, ti9, hin]
      | refine And.intro ?_ ?_
      | (refine hK _ ?_; clear hK K)
      | (refine hK _ ?_ ?_ <;> clear hK K)
      | apply_assumption (exfalso := false) (symm := false) only [*]
      | refine runQ_gC rfl (fun K hK => ?_)
      | refine runQ_gS rfl rfl ?_
      | refine runQ_gU rfl rfl ?_
      | (refine runQ_gT rfl (fun hc K hK => ?_) (fun hc => ?_) <;> first | (exfalso; omega) | skip)
      | (refine runQ_gF rfl (fun hc K hK => ?_) (fun hc => ?_) <;> first | (exfalso; omega) | skip)
      | refine runQ_guard rfl (fun hc K hK => ?_) (fun hc => ?_)
      | refine calP_lent rfl rfl (In_spec _ _ _) rfl ?_
      | refine PW.seq (fun K hK => ?_)
      | refine PW.ret ?_
      | refine PW.skip ?_
      | refine PW.exit ?_
      | refine PW.block ?_
      | refine PW.condT rfl ?_
      | refine PW.condF rfl ?_
      | (refine PW.condD rfl (fun hc => ?_) (fun hc => ?_) <;> first | (exfalso; omega) | skip)
      | (refine PW.condN rfl (fun hc => ?_) (fun hc => ?_) <;> first | (exfalso; omega) | skip)
      | refine PW.cond rfl (fun hc => ?_) (fun hc => ?_)
      | refine PW.regQ [] ?_
      | refine PW.sdrawG kt_125 sc_125 [] hmix (by kernel_rfl) (fun K hK => ?_)
      | refine PW.drawG sc_125 [] hmix (by kernel_rfl) (fun K hK => ?_)
      | refine PW.label ?_
      | omega
      | (split <;> first | contradiction | skip)
end Go.Pv

