/- Contracts of hashes; the closed check drawn. -/
import Derived.Test.YtoakchnegkmepaaF5
set_option linter.unusedSimpArgs false
set_option linter.unusedVariables false
set_option maxRecDepth 100000
set_option maxHeartbeats 4000000
namespace Go.Pv
open Go Go.Proofs
attribute [local irreducible] PW Dr DrS DrN DrG DrH Spec SpecB runQ opP calP gdP Still

/-- What is read later. -/
def kt_112 : List (Nat × List Nat) := [(0, [0]), (1, [2])]
theorem keyError_spec (s : ByteArray) (hs : s.size < 4611686018427387904) : Spec Try.prog 112 [.str s] [(none, .int .i64 (whenV (!keyV s) 5))] := by
  refine spec_of (nt := 7) (rs := [.tmp 2]) Try.func112 rfl rfl rfl rfl (by simp) (by simp [np]) (fun B => ?_)
  repeat' first
    | exact True.intro
    | refine runQ_step (fun K hK => ?_)
    | refine runQ_end ?_
    | refine PW.sregN kt_112 [] (fun K hK => ?_)
    | simp only [push_cast, ↓reduceIte, Nat.reduceAdd, Nat.reduceSub, Nat.reduceMul, Nat.reduceEqDiff, Nat.reduceLT, Nat.reduceLeDiff, Int.reduceToNat, reduceCtorEq, Int.reduceEq, Int.reduceLT, Int.reduceLE, Int.reduceAdd, Int.reduceSub, Int.reduceMul, Int.reduceNeg, MV.top, kt_112, ti4, ti9, ti32]
    | refine And.intro ?_ ?_
    | (refine hK _ ?_; clear hK K)
    | (refine hK _ ?_ ?_ <;> clear hK K)
    | apply_assumption (exfalso := false) (symm := false) only [*]
    | refine calP_lent rfl rfl (Key_spec _ hs) rfl ?_
    | refine calP_lent rfl rfl (When_spec _ _) rfl ?_
    | refine PW.seq (fun K hK => ?_)
    | refine PW.ret ?_
    | refine PW.skip ?_
    | refine PW.exit ?_
    | refine PW.block ?_
    | refine PW.condT rfl ?_
    | refine PW.condF rfl ?_
    | (refine PW.condD rfl (fun hc => ?_) (fun hc => ?_) <;> first | (exfalso; omega) | skip)
    | (refine PW.condN rfl (fun hc => ?_) (fun hc => ?_) <;> first | (exfalso; omega) | skip)
    | refine PW.cond rfl (fun hc => ?_) (fun hc => ?_)
    | refine PW.regQ [] ?_
    | refine PW.sdrawG kt_112 sc_112 [] hmix (by kernel_rfl) (fun K hK => ?_)
    | refine PW.drawG sc_112 [] hmix (by kernel_rfl) (fun K hK => ?_)
    | refine PW.label ?_
    | omega
    | (split <;> first | contradiction | skip)

def hstep (h c : Int) : Int := IntKind.u32.wrap (bitI .xor .u32 h (IntKind.u32.wrap c) * 16777619)
def hmore (h : Int) : Int := IntKind.u32.wrap (bitI .xor .u32 h (h.fdiv (2 ^ (min 15 IntKind.u32.bits))) * 2246822519)
def hashV (id seed : ByteArray) : Int :=
  let h := hmore (hmore ((bl (seed ++ ⟨#[32]⟩ ++ id)).foldl hstep 2166136261))
  IntKind.i64.wrap (bitI .xor .u32 h (h.fdiv (2 ^ (min 13 IntKind.u32.bits))))

def hstepR (h c : Int) : Int := (IntKind.u64.wrap (bitI .xor .u64 h (IntKind.u64.wrap c) * 16777619)).tmod 4294967296
def hmoreR (h : Int) : Int := (IntKind.u64.wrap (bitI .xor .u64 h (IntKind.u64.wrap (h.tdiv 32768)) * 2246822519)).tmod 4294967296
def hashR (id seed : ByteArray) : Int :=
  let h := hmoreR (hmoreR ((bl (seed ++ ⟨#[32]⟩ ++ id)).foldl hstepR 2166136261))
  IntKind.i64.wrap (bitI .xor .u64 h (IntKind.u64.wrap (h.tdiv 8192)))

theorem hstep_eq (h c : Int) : IntKind.u32.wrap (bitI .xor .u32 h (IntKind.u32.wrap c) * 16777619) = hstep h c := rfl
theorem hmore_eq (h : Int) : IntKind.u32.wrap (bitI .xor .u32 h (h.fdiv (2 ^ (min 15 IntKind.u32.bits))) * 2246822519) = hmore h := rfl
theorem hstepR_eq (h c : Int) : (IntKind.u64.wrap (bitI .xor .u64 h (IntKind.u64.wrap c) * 16777619)).tmod 4294967296 = hstepR h c := rfl
theorem hmoreR_eq (h : Int) : (IntKind.u64.wrap (bitI .xor .u64 h (IntKind.u64.wrap (h.tdiv 32768)) * 2246822519)).tmod 4294967296 = hmoreR h := rfl
theorem wrap_one : IntKind.i64.wrap 1 = 1 := by decide
theorem wrap_two : IntKind.i64.wrap 2 = 2 := by decide

theorem foldl_drop {f : Int → Int → Int} {xs : List Int} {i : Nat} (a : Int) (h : i < xs.length) : (xs.drop i).foldl f a = (xs.drop (i + 1)).foldl f (f a xs[i]) := by
  rw [List.drop_eq_getElem_cons h]; rfl

/-- What is read later. -/
def kt_113 : List (Nat × List Nat) := [(0, [0, 1]), (1, [0, 1, 5]), (2, [5, 12, 13, 14]), (3, [5, 12, 13, 14, 15]), (4, [5, 7, 12, 13, 14]), (5, [5, 12, 13, 14]), (6, [5, 12, 13, 14]), (7, [5, 24]), (8, [5, 24, 25]), (9, [5, 24]), (10, [5, 24]), (11, [4])]
theorem hash_spec (id seed : ByteArray) (hs : (seed ++ ⟨#[32]⟩ ++ id).size < 4611686018427387904) : Spec Try.prog 113 [.str id, .str seed] [(none, .int .i64 (hashV id seed))] := by
  obtain ⟨u, hu⟩ : ∃ u, u = seed ++ ⟨#[32]⟩ ++ id := ⟨_, rfl⟩
  rw [← hu] at hs
  have hres : hashV id seed = IntKind.i64.wrap (bitI .xor .u32 (hmore (hmore ((bl u).foldl hstep 2166136261))) ((hmore (hmore ((bl u).foldl hstep 2166136261))).fdiv (2 ^ (min 13 IntKind.u32.bits)))) := by rw [hu]; rfl
  rw [hres]
  clear hres
  have hsz : u.size = seed.size + (⟨#[32]⟩ : ByteArray).size + id.size := by rw [hu]; simp [ByteArray.size_append]
  have ha : seed.size + (⟨#[32]⟩ : ByteArray).size ≤ 9223372036854775807 := by omega
  have hb : (seed ++ ⟨#[32]⟩).size + id.size ≤ 9223372036854775807 := by rw [ByteArray.size_append]; omega
  clear hsz
  refine spec_of (nt := 37) (rs := [.tmp 4]) Try.func113 rfl rfl rfl rfl (by simp) (by simp [np]) (fun B => ?_)
  repeat' first
    | exact True.intro
    | refine runQ_step (fun K hK => ?_)
    | refine runQ_end ?_
    | refine PW.sregN kt_113 [] (fun K hK => ?_)
    | simp only [push_cast, ↓reduceIte, Nat.reduceAdd, Nat.reduceSub, Nat.reduceMul, Nat.reduceEqDiff, Nat.reduceLT, Nat.reduceLeDiff, Int.reduceToNat, reduceCtorEq, Int.reduceEq, Int.reduceLT, Int.reduceLE, Int.reduceAdd, Int.reduceSub, Int.reduceMul, Int.reduceNeg, MV.top, kt_113, ti3, ti4, ti5, ti9, ti122, ti132, ti133, ← hu]
    | refine And.intro ?_ ?_
    | (refine hK _ ?_; clear hK K)
    | (refine hK _ ?_ ?_ <;> clear hK K)
    | apply_assumption (exfalso := false) (symm := false) only [*]
    | refine PW.seq (fun K hK => ?_)
    | refine PW.ret ?_
    | refine PW.skip ?_
    | refine PW.exit ?_
    | refine PW.block ?_
    | refine PW.condT rfl ?_
    | refine PW.condF rfl ?_
    | (refine PW.condD rfl (fun hc => ?_) (fun hc => ?_) <;> first | (exfalso; omega) | skip)
    | (refine PW.condN rfl (fun hc => ?_) (fun hc => ?_) <;> first | (exfalso; omega) | skip)
    | refine PW.cond rfl (fun hc => ?_) (fun hc => ?_)
    | refine PW.regQ [] ?_
    | refine PW.sdrawG kt_113 sc_113 [] hmix (by kernel_rfl) (fun K hK => ?_)
    | refine PW.drawG sc_113 [] hmix (by kernel_rfl) (fun K hK => ?_)
    | refine PW.label ?_
    | omega
    | (split <;> first | contradiction | skip)
  clear ha hb hu
  refine PW.loopN [5, 12, 13, 14] (fun i : Nat => ⟨[(5, .sh (.int .u32 (((bl u).take i).foldl hstep 2166136261))), (12, .sh (.list (byteRow u))), (13, .sh (.int .i64 u.size)), (14, .sh (.int .i64 (i : Int)))], B⟩) (fun i => i ≤ u.size) (fun i => u.size - i) 0 ?_ (Nat.zero_le _) (fun i hi => ?_)
  · simp only [push_cast, ↓reduceIte, Nat.reduceAdd, Nat.reduceSub, Nat.reduceMul, Nat.reduceEqDiff, Nat.reduceLT, Nat.reduceLeDiff, Int.reduceToNat, reduceCtorEq, Int.reduceEq, Int.reduceLT, Int.reduceLE, Int.reduceAdd, Int.reduceSub, Int.reduceMul, Int.reduceNeg, MV.top, kt_113, ti3, ti4, ti5, ti9, ti122, ti132, ti133, List.take_zero, List.foldl_nil]
  by_cases hlt : i < u.size
  · have hlt2 : (i : Int) < u.size := by omega
    have hlb : i < (bl u).length := by rw [bl_len]; exact hlt
    have hget := byteRow_bl hlb
    have hstp : ((bl u).take (i + 1)).foldl hstep 2166136261 = hstep (((bl u).take i).foldl hstep 2166136261) (bl u)[i] := by rw [List.take_succ_eq_append_getElem hlb, List.foldl_append]; rfl
    generalize ((bl u).take i).foldl hstep 2166136261 = h at hstp ⊢
    repeat' first
      | exact True.intro
      | refine runQ_step (fun K hK => ?_)
      | refine runQ_end ?_
      | refine PW.sregN kt_113 [] (fun K hK => ?_)
      | simp only [push_cast, ↓reduceIte, Nat.reduceAdd, Nat.reduceSub, Nat.reduceMul, Nat.reduceEqDiff, Nat.reduceLT, Nat.reduceLeDiff, Int.reduceToNat, reduceCtorEq, Int.reduceEq, Int.reduceLT, Int.reduceLE, Int.reduceAdd, Int.reduceSub, Int.reduceMul, Int.reduceNeg, MV.top, kt_113, ti3, ti4, ti5, ti9, ti122, ti132, ti133, hlt2, hget, Int.toNat_natCast, hstep_eq]
      | refine And.intro ?_ ?_
      | (refine hK _ ?_; clear hK K)
      | (refine hK _ ?_ ?_ <;> clear hK K)
      | apply_assumption (exfalso := false) (symm := false) only [*]
      | refine PW.seq (fun K hK => ?_)
      | refine PW.ret ?_
      | refine PW.skip ?_
      | refine PW.exit ?_
      | refine PW.block ?_
      | refine PW.condT rfl ?_
      | refine PW.condF rfl ?_
      | (refine PW.condD rfl (fun hc => ?_) (fun hc => ?_) <;> first | (exfalso; omega) | skip)
      | (refine PW.condN rfl (fun hc => ?_) (fun hc => ?_) <;> first | (exfalso; omega) | skip)
      | refine PW.cond rfl (fun hc => ?_) (fun hc => ?_)
      | refine PW.regQ [] ?_
      | refine PW.sdrawG kt_113 sc_113 [] hmix (by kernel_rfl) (fun K hK => ?_)
      | refine PW.drawG sc_113 [] hmix (by kernel_rfl) (fun K hK => ?_)
      | refine PW.label ?_
      | omega
      | (split <;> first | contradiction | skip)
    exact ⟨i + 1, by rw [hstp, wrap_nat (by omega)], by omega, by omega⟩
  · have hlt2 : ¬ (i : Int) < u.size := by omega
    rw [List.take_of_length_le (by rw [bl_len]; omega)]
    obtain ⟨h, hh⟩ : ∃ h, h = (bl u).foldl hstep 2166136261 := ⟨_, rfl⟩
    rw [← hh]
    repeat' first
      | exact True.intro
      | refine runQ_step (fun K hK => ?_)
      | refine runQ_end ?_
      | refine PW.sregN kt_113 [] (fun K hK => ?_)
      | simp only [push_cast, ↓reduceIte, Nat.reduceAdd, Nat.reduceSub, Nat.reduceMul, Nat.reduceEqDiff, Nat.reduceLT, Nat.reduceLeDiff, Int.reduceToNat, reduceCtorEq, Int.reduceEq, Int.reduceLT, Int.reduceLE, Int.reduceAdd, Int.reduceSub, Int.reduceMul, Int.reduceNeg, MV.top, kt_113, ti3, ti4, ti5, ti9, ti122, ti132, ti133, hlt2]
      | refine And.intro ?_ ?_
      | (refine hK _ ?_; clear hK K)
      | (refine hK _ ?_ ?_ <;> clear hK K)
      | apply_assumption (exfalso := false) (symm := false) only [*]
      | refine PW.seq (fun K hK => ?_)
      | refine PW.ret ?_
      | refine PW.skip ?_
      | refine PW.exit ?_
      | refine PW.block ?_
      | refine PW.condT rfl ?_
      | refine PW.condF rfl ?_
      | (refine PW.condD rfl (fun hc => ?_) (fun hc => ?_) <;> first | (exfalso; omega) | skip)
      | (refine PW.condN rfl (fun hc => ?_) (fun hc => ?_) <;> first | (exfalso; omega) | skip)
      | refine PW.cond rfl (fun hc => ?_) (fun hc => ?_)
      | refine PW.regQ [] ?_
      | refine PW.sdrawG kt_113 sc_113 [] hmix (by kernel_rfl) (fun K hK => ?_)
      | refine PW.drawG sc_113 [] hmix (by kernel_rfl) (fun K hK => ?_)
      | refine PW.label ?_
      | omega
      | (split <;> first | contradiction | skip)
    refine PW.loopN [5, 24] (fun s : Int × Int => ⟨[(5, .sh (.int .u32 s.1)), (24, .sh (.int .i64 s.2))], B⟩) (fun s => s = (h, 0) ∨ s = (hmore h, 1) ∨ s = (hmore (hmore h), 2)) (fun s => (2 - s.2).toNat) (h, 0) ?_ (.inl rfl) (fun s hs => ?_)
    · simp only [push_cast, ↓reduceIte, Nat.reduceAdd, Nat.reduceSub, Nat.reduceMul, Nat.reduceEqDiff, Nat.reduceLT, Nat.reduceLeDiff, Int.reduceToNat, reduceCtorEq, Int.reduceEq, Int.reduceLT, Int.reduceLE, Int.reduceAdd, Int.reduceSub, Int.reduceMul, Int.reduceNeg, MV.top, kt_113, ti3, ti4, ti5, ti9, ti122, ti132, ti133]
    rcases hs with rfl | rfl | rfl
    · skip
      repeat' first
        | exact True.intro
        | refine runQ_step (fun K hK => ?_)
        | refine runQ_end ?_
        | refine PW.sregN kt_113 [] (fun K hK => ?_)
        | simp only [push_cast, ↓reduceIte, Nat.reduceAdd, Nat.reduceSub, Nat.reduceMul, Nat.reduceEqDiff, Nat.reduceLT, Nat.reduceLeDiff, Int.reduceToNat, reduceCtorEq, Int.reduceEq, Int.reduceLT, Int.reduceLE, Int.reduceAdd, Int.reduceSub, Int.reduceMul, Int.reduceNeg, MV.top, kt_113, ti3, ti4, ti5, ti9, ti122, ti132, ti133, hmore_eq, wrap_one]
        | refine And.intro ?_ ?_
        | (refine hK _ ?_; clear hK K)
        | (refine hK _ ?_ ?_ <;> clear hK K)
        | apply_assumption (exfalso := false) (symm := false) only [*]
        | refine PW.seq (fun K hK => ?_)
        | refine PW.ret ?_
        | refine PW.skip ?_
        | refine PW.exit ?_
        | refine PW.block ?_
        | refine PW.condT rfl ?_
        | refine PW.condF rfl ?_
        | (refine PW.condD rfl (fun hc => ?_) (fun hc => ?_) <;> first | (exfalso; omega) | skip)
        | (refine PW.condN rfl (fun hc => ?_) (fun hc => ?_) <;> first | (exfalso; omega) | skip)
        | refine PW.cond rfl (fun hc => ?_) (fun hc => ?_)
        | refine PW.regQ [] ?_
        | refine PW.sdrawG kt_113 sc_113 [] hmix (by kernel_rfl) (fun K hK => ?_)
        | refine PW.drawG sc_113 [] hmix (by kernel_rfl) (fun K hK => ?_)
        | refine PW.label ?_
        | omega
        | (split <;> first | contradiction | skip)
      exact ⟨(hmore h, 1), rfl, .inr (.inl rfl), by show (2 - 1 : Int).toNat < 2; decide⟩
    · skip
      repeat' first
        | exact True.intro
        | refine runQ_step (fun K hK => ?_)
        | refine runQ_end ?_
        | refine PW.sregN kt_113 [] (fun K hK => ?_)
        | simp only [push_cast, ↓reduceIte, Nat.reduceAdd, Nat.reduceSub, Nat.reduceMul, Nat.reduceEqDiff, Nat.reduceLT, Nat.reduceLeDiff, Int.reduceToNat, reduceCtorEq, Int.reduceEq, Int.reduceLT, Int.reduceLE, Int.reduceAdd, Int.reduceSub, Int.reduceMul, Int.reduceNeg, MV.top, kt_113, ti3, ti4, ti5, ti9, ti122, ti132, ti133, hmore_eq, wrap_two]
        | refine And.intro ?_ ?_
        | (refine hK _ ?_; clear hK K)
        | (refine hK _ ?_ ?_ <;> clear hK K)
        | apply_assumption (exfalso := false) (symm := false) only [*]
        | refine PW.seq (fun K hK => ?_)
        | refine PW.ret ?_
        | refine PW.skip ?_
        | refine PW.exit ?_
        | refine PW.block ?_
        | refine PW.condT rfl ?_
        | refine PW.condF rfl ?_
        | (refine PW.condD rfl (fun hc => ?_) (fun hc => ?_) <;> first | (exfalso; omega) | skip)
        | (refine PW.condN rfl (fun hc => ?_) (fun hc => ?_) <;> first | (exfalso; omega) | skip)
        | refine PW.cond rfl (fun hc => ?_) (fun hc => ?_)
        | refine PW.regQ [] ?_
        | refine PW.sdrawG kt_113 sc_113 [] hmix (by kernel_rfl) (fun K hK => ?_)
        | refine PW.drawG sc_113 [] hmix (by kernel_rfl) (fun K hK => ?_)
        | refine PW.label ?_
        | omega
        | (split <;> first | contradiction | skip)
      exact ⟨(hmore (hmore h), 2), rfl, .inr (.inr rfl), by show (2 - 2 : Int).toNat < 1; decide⟩
    · skip
      repeat' first
        | exact True.intro
        | refine runQ_step (fun K hK => ?_)
        | refine runQ_end ?_
        | refine PW.sregN kt_113 [] (fun K hK => ?_)
        | simp only [push_cast, ↓reduceIte, Nat.reduceAdd, Nat.reduceSub, Nat.reduceMul, Nat.reduceEqDiff, Nat.reduceLT, Nat.reduceLeDiff, Int.reduceToNat, reduceCtorEq, Int.reduceEq, Int.reduceLT, Int.reduceLE, Int.reduceAdd, Int.reduceSub, Int.reduceMul, Int.reduceNeg, MV.top, kt_113, ti3, ti4, ti5, ti9, ti122, ti132, ti133, hmore_eq]
        | refine And.intro ?_ ?_
        | (refine hK _ ?_; clear hK K)
        | (refine hK _ ?_ ?_ <;> clear hK K)
        | apply_assumption (exfalso := false) (symm := false) only [*]
        | refine PW.seq (fun K hK => ?_)
        | refine PW.ret ?_
        | refine PW.skip ?_
        | refine PW.exit ?_
        | refine PW.block ?_
        | refine PW.condT rfl ?_
        | refine PW.condF rfl ?_
        | (refine PW.condD rfl (fun hc => ?_) (fun hc => ?_) <;> first | (exfalso; omega) | skip)
        | (refine PW.condN rfl (fun hc => ?_) (fun hc => ?_) <;> first | (exfalso; omega) | skip)
        | refine PW.cond rfl (fun hc => ?_) (fun hc => ?_)
        | refine PW.regQ [] ?_
        | refine PW.sdrawG kt_113 sc_113 [] hmix (by kernel_rfl) (fun K hK => ?_)
        | refine PW.drawG sc_113 [] hmix (by kernel_rfl) (fun K hK => ?_)
        | refine PW.label ?_
        | omega
        | (split <;> first | contradiction | skip)
      rw [hh]
/-- What is read later. -/
def kt_114 : List (Nat × List Nat) := [(0, [0]), (1, [2])]
theorem low_spec (n : Int) : Spec Try.prog 114 [.int .u64 n] [(none, .int .u64 (n.tmod 4294967296))] := by
  refine spec_of (nt := 5) (rs := [.tmp 2]) Try.func114 rfl rfl rfl rfl (by simp) (by simp [np]) (fun B => ?_)
  repeat' first
    | exact True.intro
    | refine runQ_step (fun K hK => ?_)
    | refine runQ_end ?_
    | refine PW.sregN kt_114 [] (fun K hK => ?_)
    | simp only [push_cast, ↓reduceIte, Nat.reduceAdd, Nat.reduceSub, Nat.reduceMul, Nat.reduceEqDiff, Nat.reduceLT, Nat.reduceLeDiff, Int.reduceToNat, reduceCtorEq, Int.reduceEq, Int.reduceLT, Int.reduceLE, Int.reduceAdd, Int.reduceSub, Int.reduceMul, Int.reduceNeg, MV.top, kt_114, ti120]
    | refine And.intro ?_ ?_
    | (refine hK _ ?_; clear hK K)
    | (refine hK _ ?_ ?_ <;> clear hK K)
    | apply_assumption (exfalso := false) (symm := false) only [*]
    | refine PW.seq (fun K hK => ?_)
    | refine PW.ret ?_
    | refine PW.skip ?_
    | refine PW.exit ?_
    | refine PW.block ?_
    | refine PW.condT rfl ?_
    | refine PW.condF rfl ?_
    | (refine PW.condD rfl (fun hc => ?_) (fun hc => ?_) <;> first | (exfalso; omega) | skip)
    | (refine PW.condN rfl (fun hc => ?_) (fun hc => ?_) <;> first | (exfalso; omega) | skip)
    | refine PW.cond rfl (fun hc => ?_) (fun hc => ?_)
    | refine PW.regQ [] ?_
    | refine PW.sdrawG kt_114 sc_114 [] hmix (by kernel_rfl) (fun K hK => ?_)
    | refine PW.drawG sc_114 [] hmix (by kernel_rfl) (fun K hK => ?_)
    | refine PW.label ?_
    | omega
    | (split <;> first | contradiction | skip)

/-- What is read later. -/
def kt_77 : List (Nat × List Nat) := [(0, [0, 1]), (1, [0, 1, 5]), (2, [0, 1, 5, 6]), (3, [5, 6, 13, 14, 15]), (4, [5, 6, 13, 14, 15, 16]), (5, [5, 6, 8, 13, 14, 15]), (6, [5, 6, 13, 14, 15]), (7, [5, 6, 13, 14, 15]), (8, [5, 6, 27]), (9, [5, 6, 27, 28]), (10, [5, 6, 27]), (11, [5, 6, 27]), (12, [5, 6, 27]), (13, [4])]
theorem HashOf_spec (id seed : ByteArray) (hs : (seed ++ ⟨#[32]⟩ ++ id).size < 4611686018427387904) : Spec Try.prog 77 [.str id, .str seed] [(none, .int .i64 (hashR id seed))] := by
  obtain ⟨u, hu⟩ : ∃ u, u = seed ++ ⟨#[32]⟩ ++ id := ⟨_, rfl⟩
  rw [← hu] at hs
  have hres : hashR id seed = IntKind.i64.wrap (bitI .xor .u64 (hmoreR (hmoreR ((bl u).foldl hstepR 2166136261))) (IntKind.u64.wrap ((hmoreR (hmoreR ((bl u).foldl hstepR 2166136261))).tdiv 8192))) := by rw [hu]; rfl
  rw [hres]
  clear hres
  have hsz : u.size = seed.size + (⟨#[32]⟩ : ByteArray).size + id.size := by rw [hu]; simp [ByteArray.size_append]
  have ha : seed.size + (⟨#[32]⟩ : ByteArray).size ≤ 9223372036854775807 := by omega
  have hb : (seed ++ ⟨#[32]⟩).size + id.size ≤ 9223372036854775807 := by rw [ByteArray.size_append]; omega
  clear hsz
  refine spec_of (nt := 43) (rs := [.tmp 4]) Try.func77 rfl rfl rfl rfl (by simp) (by simp [np]) (fun B => ?_)
  repeat' first
    | exact True.intro
    | refine runQ_step (fun K hK => ?_)
    | refine runQ_end ?_
    | refine PW.sregN kt_77 [] (fun K hK => ?_)
    | simp only [push_cast, ↓reduceIte, Nat.reduceAdd, Nat.reduceSub, Nat.reduceMul, Nat.reduceEqDiff, Nat.reduceLT, Nat.reduceLeDiff, Int.reduceToNat, reduceCtorEq, Int.reduceEq, Int.reduceLT, Int.reduceLE, Int.reduceAdd, Int.reduceSub, Int.reduceMul, Int.reduceNeg, MV.top, kt_77, ti3, ti4, ti5, ti9, ti120, ti121, ti122, ← hu]
    | refine And.intro ?_ ?_
    | (refine hK _ ?_; clear hK K)
    | (refine hK _ ?_ ?_ <;> clear hK K)
    | apply_assumption (exfalso := false) (symm := false) only [*]
    | refine PW.seq (fun K hK => ?_)
    | refine PW.ret ?_
    | refine PW.skip ?_
    | refine PW.exit ?_
    | refine PW.block ?_
    | refine PW.condT rfl ?_
    | refine PW.condF rfl ?_
    | (refine PW.condD rfl (fun hc => ?_) (fun hc => ?_) <;> first | (exfalso; omega) | skip)
    | (refine PW.condN rfl (fun hc => ?_) (fun hc => ?_) <;> first | (exfalso; omega) | skip)
    | refine PW.cond rfl (fun hc => ?_) (fun hc => ?_)
    | refine PW.regQ [] ?_
    | refine PW.sdrawG kt_77 sc_77 [] hmix (by kernel_rfl) (fun K hK => ?_)
    | refine PW.drawG sc_77 [] hmix (by kernel_rfl) (fun K hK => ?_)
    | refine PW.label ?_
    | omega
    | (split <;> first | contradiction | skip)
  clear ha hb hu
  refine PW.loopN [5, 6, 13, 14, 15] (fun i : Nat => ⟨[(5, .sh (.int .u64 (((bl u).take i).foldl hstepR 2166136261))), (6, .sh (.fn 114 [])), (13, .sh (.list (byteRow u))), (14, .sh (.int .i64 u.size)), (15, .sh (.int .i64 (i : Int)))], B⟩) (fun i => i ≤ u.size) (fun i => u.size - i) 0 ?_ (Nat.zero_le _) (fun i hi => ?_)
  · simp only [push_cast, ↓reduceIte, Nat.reduceAdd, Nat.reduceSub, Nat.reduceMul, Nat.reduceEqDiff, Nat.reduceLT, Nat.reduceLeDiff, Int.reduceToNat, reduceCtorEq, Int.reduceEq, Int.reduceLT, Int.reduceLE, Int.reduceAdd, Int.reduceSub, Int.reduceMul, Int.reduceNeg, MV.top, kt_77, ti3, ti4, ti5, ti9, ti120, ti121, ti122, List.take_zero, List.foldl_nil]
  by_cases hlt : i < u.size
  · have hlt2 : (i : Int) < u.size := by omega
    have hlb : i < (bl u).length := by rw [bl_len]; exact hlt
    have hget := byteRow_bl hlb
    have hstp : ((bl u).take (i + 1)).foldl hstepR 2166136261 = hstepR (((bl u).take i).foldl hstepR 2166136261) (bl u)[i] := by rw [List.take_succ_eq_append_getElem hlb, List.foldl_append]; rfl
    generalize ((bl u).take i).foldl hstepR 2166136261 = h at hstp ⊢
    repeat' first
      | exact True.intro
      | refine runQ_step (fun K hK => ?_)
      | refine runQ_end ?_
      | refine PW.sregN kt_77 [] (fun K hK => ?_)
      | simp only [push_cast, ↓reduceIte, Nat.reduceAdd, Nat.reduceSub, Nat.reduceMul, Nat.reduceEqDiff, Nat.reduceLT, Nat.reduceLeDiff, Int.reduceToNat, reduceCtorEq, Int.reduceEq, Int.reduceLT, Int.reduceLE, Int.reduceAdd, Int.reduceSub, Int.reduceMul, Int.reduceNeg, MV.top, kt_77, ti3, ti4, ti5, ti9, ti120, ti121, ti122, hlt2, hget, Int.toNat_natCast, hstepR_eq]
      | refine And.intro ?_ ?_
      | (refine hK _ ?_; clear hK K)
      | (refine hK _ ?_ ?_ <;> clear hK K)
      | apply_assumption (exfalso := false) (symm := false) only [*]
      | refine calP_lent rfl rfl (low_spec _) rfl ?_
      | refine PW.seq (fun K hK => ?_)
      | refine PW.ret ?_
      | refine PW.skip ?_
      | refine PW.exit ?_
      | refine PW.block ?_
      | refine PW.condT rfl ?_
      | refine PW.condF rfl ?_
      | (refine PW.condD rfl (fun hc => ?_) (fun hc => ?_) <;> first | (exfalso; omega) | skip)
      | (refine PW.condN rfl (fun hc => ?_) (fun hc => ?_) <;> first | (exfalso; omega) | skip)
      | refine PW.cond rfl (fun hc => ?_) (fun hc => ?_)
      | refine PW.regQ [] ?_
      | refine PW.sdrawG kt_77 sc_77 [] hmix (by kernel_rfl) (fun K hK => ?_)
      | refine PW.drawG sc_77 [] hmix (by kernel_rfl) (fun K hK => ?_)
      | refine PW.label ?_
      | omega
      | (split <;> first | contradiction | skip)
    exact ⟨i + 1, by rw [hstp, wrap_nat (by omega)], by omega, by omega⟩
  · have hlt2 : ¬ (i : Int) < u.size := by omega
    rw [List.take_of_length_le (by rw [bl_len]; omega)]
    obtain ⟨h, hh⟩ : ∃ h, h = (bl u).foldl hstepR 2166136261 := ⟨_, rfl⟩
    rw [← hh]
    repeat' first
      | exact True.intro
      | refine runQ_step (fun K hK => ?_)
      | refine runQ_end ?_
      | refine PW.sregN kt_77 [] (fun K hK => ?_)
      | simp only [push_cast, ↓reduceIte, Nat.reduceAdd, Nat.reduceSub, Nat.reduceMul, Nat.reduceEqDiff, Nat.reduceLT, Nat.reduceLeDiff, Int.reduceToNat, reduceCtorEq, Int.reduceEq, Int.reduceLT, Int.reduceLE, Int.reduceAdd, Int.reduceSub, Int.reduceMul, Int.reduceNeg, MV.top, kt_77, ti3, ti4, ti5, ti9, ti120, ti121, ti122, hlt2]
      | refine And.intro ?_ ?_
      | (refine hK _ ?_; clear hK K)
      | (refine hK _ ?_ ?_ <;> clear hK K)
      | apply_assumption (exfalso := false) (symm := false) only [*]
      | refine PW.seq (fun K hK => ?_)
      | refine PW.ret ?_
      | refine PW.skip ?_
      | refine PW.exit ?_
      | refine PW.block ?_
      | refine PW.condT rfl ?_
      | refine PW.condF rfl ?_
      | (refine PW.condD rfl (fun hc => ?_) (fun hc => ?_) <;> first | (exfalso; omega) | skip)
      | (refine PW.condN rfl (fun hc => ?_) (fun hc => ?_) <;> first | (exfalso; omega) | skip)
      | refine PW.cond rfl (fun hc => ?_) (fun hc => ?_)
      | refine PW.regQ [] ?_
      | refine PW.sdrawG kt_77 sc_77 [] hmix (by kernel_rfl) (fun K hK => ?_)
      | refine PW.drawG sc_77 [] hmix (by kernel_rfl) (fun K hK => ?_)
      | refine PW.label ?_
      | omega
      | (split <;> first | contradiction | skip)
    refine PW.loopN [5, 6, 27] (fun s : Int × Int => ⟨[(5, .sh (.int .u64 s.1)), (6, .sh (.fn 114 [])), (27, .sh (.int .i64 s.2))], B⟩) (fun s => s = (h, 0) ∨ s = (hmoreR h, 1) ∨ s = (hmoreR (hmoreR h), 2)) (fun s => (2 - s.2).toNat) (h, 0) ?_ (.inl rfl) (fun s hs => ?_)
    · simp only [push_cast, ↓reduceIte, Nat.reduceAdd, Nat.reduceSub, Nat.reduceMul, Nat.reduceEqDiff, Nat.reduceLT, Nat.reduceLeDiff, Int.reduceToNat, reduceCtorEq, Int.reduceEq, Int.reduceLT, Int.reduceLE, Int.reduceAdd, Int.reduceSub, Int.reduceMul, Int.reduceNeg, MV.top, kt_77, ti3, ti4, ti5, ti9, ti120, ti121, ti122]
    rcases hs with rfl | rfl | rfl
    · skip
      repeat' first
        | exact True.intro
        | refine runQ_step (fun K hK => ?_)
        | refine runQ_end ?_
        | refine PW.sregN kt_77 [] (fun K hK => ?_)
        | simp only [push_cast, ↓reduceIte, Nat.reduceAdd, Nat.reduceSub, Nat.reduceMul, Nat.reduceEqDiff, Nat.reduceLT, Nat.reduceLeDiff, Int.reduceToNat, reduceCtorEq, Int.reduceEq, Int.reduceLT, Int.reduceLE, Int.reduceAdd, Int.reduceSub, Int.reduceMul, Int.reduceNeg, MV.top, kt_77, ti3, ti4, ti5, ti9, ti120, ti121, ti122, hmoreR_eq, wrap_one]
        | refine And.intro ?_ ?_
        | (refine hK _ ?_; clear hK K)
        | (refine hK _ ?_ ?_ <;> clear hK K)
        | apply_assumption (exfalso := false) (symm := false) only [*]
        | refine calP_lent rfl rfl (low_spec _) rfl ?_
        | refine PW.seq (fun K hK => ?_)
        | refine PW.ret ?_
        | refine PW.skip ?_
        | refine PW.exit ?_
        | refine PW.block ?_
        | refine PW.condT rfl ?_
        | refine PW.condF rfl ?_
        | (refine PW.condD rfl (fun hc => ?_) (fun hc => ?_) <;> first | (exfalso; omega) | skip)
        | (refine PW.condN rfl (fun hc => ?_) (fun hc => ?_) <;> first | (exfalso; omega) | skip)
        | refine PW.cond rfl (fun hc => ?_) (fun hc => ?_)
        | refine PW.regQ [] ?_
        | refine PW.sdrawG kt_77 sc_77 [] hmix (by kernel_rfl) (fun K hK => ?_)
        | refine PW.drawG sc_77 [] hmix (by kernel_rfl) (fun K hK => ?_)
        | refine PW.label ?_
        | omega
        | (split <;> first | contradiction | skip)
      exact ⟨(hmoreR h, 1), rfl, .inr (.inl rfl), by show (2 - 1 : Int).toNat < 2; decide⟩
    · skip
      repeat' first
        | exact True.intro
        | refine runQ_step (fun K hK => ?_)
        | refine runQ_end ?_
        | refine PW.sregN kt_77 [] (fun K hK => ?_)
        | simp only [push_cast, ↓reduceIte, Nat.reduceAdd, Nat.reduceSub, Nat.reduceMul, Nat.reduceEqDiff, Nat.reduceLT, Nat.reduceLeDiff, Int.reduceToNat, reduceCtorEq, Int.reduceEq, Int.reduceLT, Int.reduceLE, Int.reduceAdd, Int.reduceSub, Int.reduceMul, Int.reduceNeg, MV.top, kt_77, ti3, ti4, ti5, ti9, ti120, ti121, ti122, hmoreR_eq, wrap_two]
        | refine And.intro ?_ ?_
        | (refine hK _ ?_; clear hK K)
        | (refine hK _ ?_ ?_ <;> clear hK K)
        | apply_assumption (exfalso := false) (symm := false) only [*]
        | refine calP_lent rfl rfl (low_spec _) rfl ?_
        | refine PW.seq (fun K hK => ?_)
        | refine PW.ret ?_
        | refine PW.skip ?_
        | refine PW.exit ?_
        | refine PW.block ?_
        | refine PW.condT rfl ?_
        | refine PW.condF rfl ?_
        | (refine PW.condD rfl (fun hc => ?_) (fun hc => ?_) <;> first | (exfalso; omega) | skip)
        | (refine PW.condN rfl (fun hc => ?_) (fun hc => ?_) <;> first | (exfalso; omega) | skip)
        | refine PW.cond rfl (fun hc => ?_) (fun hc => ?_)
        | refine PW.regQ [] ?_
        | refine PW.sdrawG kt_77 sc_77 [] hmix (by kernel_rfl) (fun K hK => ?_)
        | refine PW.drawG sc_77 [] hmix (by kernel_rfl) (fun K hK => ?_)
        | refine PW.label ?_
        | omega
        | (split <;> first | contradiction | skip)
      exact ⟨(hmoreR (hmoreR h), 2), rfl, .inr (.inr rfl), by show (2 - 2 : Int).toNat < 1; decide⟩
    · skip
      repeat' first
        | exact True.intro
        | refine runQ_step (fun K hK => ?_)
        | refine runQ_end ?_
        | refine PW.sregN kt_77 [] (fun K hK => ?_)
        | simp only [push_cast, ↓reduceIte, Nat.reduceAdd, Nat.reduceSub, Nat.reduceMul, Nat.reduceEqDiff, Nat.reduceLT, Nat.reduceLeDiff, Int.reduceToNat, reduceCtorEq, Int.reduceEq, Int.reduceLT, Int.reduceLE, Int.reduceAdd, Int.reduceSub, Int.reduceMul, Int.reduceNeg, MV.top, kt_77, ti3, ti4, ti5, ti9, ti120, ti121, ti122, hmoreR_eq]
        | refine And.intro ?_ ?_
        | (refine hK _ ?_; clear hK K)
        | (refine hK _ ?_ ?_ <;> clear hK K)
        | apply_assumption (exfalso := false) (symm := false) only [*]
        | refine calP_lent rfl rfl (low_spec _) rfl ?_
        | refine PW.seq (fun K hK => ?_)
        | refine PW.ret ?_
        | refine PW.skip ?_
        | refine PW.exit ?_
        | refine PW.block ?_
        | refine PW.condT rfl ?_
        | refine PW.condF rfl ?_
        | (refine PW.condD rfl (fun hc => ?_) (fun hc => ?_) <;> first | (exfalso; omega) | skip)
        | (refine PW.condN rfl (fun hc => ?_) (fun hc => ?_) <;> first | (exfalso; omega) | skip)
        | refine PW.cond rfl (fun hc => ?_) (fun hc => ?_)
        | refine PW.regQ [] ?_
        | refine PW.sdrawG kt_77 sc_77 [] hmix (by kernel_rfl) (fun K hK => ?_)
        | refine PW.drawG sc_77 [] hmix (by kernel_rfl) (fun K hK => ?_)
        | refine PW.label ?_
        | omega
        | (split <;> first | contradiction | skip)
      rw [hh]
end Go.Pv

