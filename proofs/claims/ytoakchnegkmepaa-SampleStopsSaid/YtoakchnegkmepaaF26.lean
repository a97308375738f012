/- Contracts of rows that are joined. -/
import Derived.Test.YtoakchnegkmepaaF20
import Derived.Shelf.Spec.SlicesGrow
set_option linter.unusedSimpArgs false
set_option linter.unusedVariables false
set_option maxRecDepth 100000
set_option maxHeartbeats 1500000
namespace Go.Proofs
open Go.Shelf
def growB_ren : Go.Shelf.Ren := ⟨fun | 4 => 120 | n => n, fun | 22 => 69 | 25 => 4 | n => n, fun n => n⟩
theorem growB : Lays8.n4 Try.prog growB_ren where
  mixed := by kernel_rfl
  f4 := ⟨"slices.Grow[[]bool,bool]", by decide, Try.func120.trans (congrArg some (by kernel_rfl))⟩
  t0 := Try.underlying0
  a0 := Try.isAgg0
  z0 := Try.sizeOf0
  v0 := Try.zeroValue0
  t3 := Try.underlying3
  a3 := Try.isAgg3
  z3 := Try.sizeOf3
  v3 := Try.zeroValue3
  t4 := Try.underlying4
  a4 := Try.isAgg4
  z4 := Try.sizeOf4
  v4 := Try.zeroValue4
  t9 := Try.underlying9
  a9 := Try.isAgg9
  z9 := Try.sizeOf9
  v9 := Try.zeroValue9
  t20 := Try.underlying20
  a20 := Try.isAgg20
  z20 := Try.sizeOf20
  v20 := Try.zeroValue20
  t22 := Try.underlying69
  a22 := Try.isAgg69
  z22 := Try.sizeOf69
  v22 := Try.zeroValue69
end Go.Proofs
namespace Go.Pv
open Go Go.Proofs

theorem call_enter {P : Program} {f : FuncId} {fn : Func} {c : Code} (hf : P.funcs[f]? = some fn) (hb : fn.body = some c) (hname : (fn.name == "runtime.NumGoroutine") = false) (av : Array Value) (w : World) : (callFunc f av).run P w = .ok (.enter f av) w := by
  have h1 : fn.name ≠ "runtime.NumGoroutine" := by simpa using hname
  simp [callFunc, hf, h1, hb, mark]

theorem cells_nil {γ : List Nat} {ω : Own} {w : World} {sz : Nat} : Cells γ ω w sz [] [] := ⟨by simp, by simp, by simp, by simp⟩

theorem GrowB_spec (n : Int) (h0 : 0 ≤ n) (h1 : n ≤ 1000000) : Spec Try.prog 120 [.nil, .int .i64 n] [(some 1, .list [])] := by
  refine ⟨call_enter Try.func120 rfl rfl, fun γ ω w vs hl hv hlt hres => ?_⟩
  obtain ⟨k, rfl⟩ : ∃ k : Nat, n = k := ⟨n.toNat, by omega⟩
  obtain ⟨v0, v1, rfl⟩ : ∃ v0 v1, vs = [v0, v1] := by
    match vs, hl with
    | [a, b], _ => exact ⟨a, b, rfl⟩
  have r0 := hv 0 .nil v0 rfl rfl
  have r1 := hv 1 (.int .i64 k) v1 rfl rfl
  cases r0
  cases r1
  by_cases hk : k = 0
  · subst hk
    refine (Any8.slices_Grow_room growB none 0 0 0 w (by omega) (by omega) (by omega) (by omega)).mono fun e w' ⟨he, hw⟩ => ?_
    subst hw
    exact ⟨_, ω, he, Chg.refl _ _ _ _, hlt, fun _ _ => rfl, fun b hb => .inl (hlt b hb), OwnRep.list 1 [] _ 0 [] (World.ownsRow_nil _ _ _ _) cells_nil (fun b hb => by simp [Value.ownBlock] at hb)⟩
  · have hT := ty_of ti4
    obtain ⟨i, z, hi, hisz, hib, hiz, hz1, hz2, hz3⟩ := hT.info
    have hzs := zerosOf_len hz1
    rw [Array.length_toList] at hzs
    have hib1 : i.bytes ≤ 100 := by rw [hib]; decide
    have hsz1 : i.size = 1 := hisz
    have hzs1 : z.cells.size = 1 := hzs
    refine (Any8.slices_Grow_grow growB i z hi hiz (by omega) none 0 0 k [] w (by omega) (by omega) (by
      have : (0 + k) * i.bytes ≤ 1000000 * 100 := Nat.mul_le_mul (by omega) hib1
      omega) (by omega) (by simp) (fun _ => rfl) (fun a ha => by simp at ha)).mono fun e w' ⟨he, hw⟩ => ?_
    have hG := grownCap_ge w (0 + k) 0 (growB_ren.t 25)
    have hG2 := grownCap_le_maxLen w (0 + k) 0 (growB_ren.t 25) (by unfold maxLen; omega)
    generalize grownCap w (0 + k) 0 (growB_ren.t 25) = G at *
    have hdr : w.drew.heap.size = w.heap.size := rfl
    obtain ⟨hcg, hlt'⟩ := alloc_chg γ ω w.drew hlt (.cells (([] : List Value).toArray ++ Builtin.zeroCells z.cells (0 + k - 0) ++ Builtin.zeroCells z.cells (G - (0 + k))) (growB_ren.t 25)) (some .res)
    rw [← hw] at hcg hlt'
    have hrow := World.ownsRow_made (base := 0) (e := growB_ren.t 25) (size := 1) w.drew (([] : List Value).toArray ++ Builtin.zeroCells z.cells (0 + k - 0) ++ Builtin.zeroCells z.cells (G - (0 + k))) G (Nat.zero_le _) hG2 (by
      rw [Array.size_append, Array.size_append, size_zeroCells, size_zeroCells, hzs1]; simp; omega)
    rw [← hw] at hrow
    refine ⟨_, _, he, ⟨hcg.os, hcg.tape, hcg.output, hcg.size, hcg.pre, hcg.none, hcg.keep⟩, hlt', fun b hb => if_neg (by omega), fun b hb => ?_, OwnRep.list 1 [] _ _ [] hrow cells_nil (fun b hb => ?_)⟩
    · by_cases e : b = w.heap.size
      · exact .inr (.inr (if_pos e))
      · exact .inl ((if_neg e).trans (hlt b hb))
    · simp [Value.ownBlock] at hb
      subst hb
      exact ⟨if_pos rfl, hrow.lt _ rfl |>.2⟩

attribute [local irreducible] PW Dr DrS DrN DrG DrH Spec SpecB runQ opP calP gdP Still

def rowsM (bss : List (List Bool)) : MV := .list (bss.map fun bs => [bools bs])
theorem rows_get {bss : List (List Bool)} {i : Nat} (h : i < bss.length) : (bss.map fun bs => [bools bs])[i]? = some [MV.list (bss[i].map boolc)] := by simp [h, bools]
def lenT (bss : List (List Bool)) (i : Nat) : Nat := (bss.take i).flatten.length
theorem flat_succ {bss : List (List Bool)} {i : Nat} (h : i < bss.length) : (bss.take (i + 1)).flatten = (bss.take i).flatten ++ bss[i] := by
  rw [List.take_succ_eq_append_getElem h, List.flatten_append]; simp
theorem lenT_succ {bss : List (List Bool)} {i : Nat} (h : i < bss.length) : lenT bss (i + 1) = lenT bss i + bss[i].length := by
  unfold lenT; rw [flat_succ h, List.length_append]
theorem lenT_le (bss : List (List Bool)) (i : Nat) : lenT bss i ≤ bss.flatten.length := by
  have h : bss.flatten = (bss.take i).flatten ++ (bss.drop i).flatten := by rw [← List.flatten_append, List.take_append_drop]
  unfold lenT; rw [h, List.length_append]; omega
theorem boolc_len (bs : List Bool) : ∀ y ∈ bs.map boolc, y.length = 1 := by
  intro y hy
  obtain ⟨x, _, rfl⟩ := List.mem_map.1 hy
  rfl

/-- What is read later. -/
def kt_98 : List (Nat × List Nat) := [(0, [0]), (1, [0, 3]), (2, [0, 3, 9, 10, 11]), (3, [0, 3, 9, 10, 11, 12]), (4, [0, 3, 5, 9, 10, 11, 14]), (5, [0, 3, 9, 10, 11]), (6, [0, 3, 9, 10, 11, 20]), (7, [0, 3, 9, 10, 11]), (8, [0, 3, 9, 10, 11]), (9, [0, 6, 24, 33]), (10, [0, 6, 24, 25, 26, 27, 33]), (11, [0, 6, 24, 25, 26, 27, 28, 33]), (12, [0, 6, 8, 24, 25, 26, 27, 30, 33]), (13, [0, 6, 24, 25, 26, 27, 33]), (14, [0, 6, 24, 25, 26, 27, 33]), (15, [2, 6, 24, 33, 35])]
theorem Concat_spec (bss : List (List Bool)) (hl : bss.length ≤ 1000000) (hf : bss.flatten.length ≤ 1000000) : Spec Try.prog 98 [rowsM bss] [(none, bools bss.flatten)] := by
  have hnp := np_bools bss.flatten
  have hlt := lenT_le bss
  have hg := GrowB_spec (bss.flatten.length : Int) (by omega) (by omega)
  unfold rowsM bools at *
  refine spec_of (nt := 36) (rs := [.tmp 2]) Try.func98 rfl rfl rfl rfl (by simp) (by intro x hx; simp only [List.mem_cons, List.not_mem_nil, or_false] at hx; subst hx; exact hnp) (fun B => ?_)
  clear hnp
  refine PW.sregN kt_98 [] (fun K hK => ?_)
  repeat' first
    | exact True.intro
    | refine runQ_step (fun K hK => ?_)
    | refine runQ_end ?_
    | simp only [push_cast, ↓reduceIte, Nat.reduceAdd, Nat.reduceSub, Nat.reduceMul, Nat.reduceEqDiff, Nat.reduceLT, Nat.reduceLeDiff, Int.reduceToNat, reduceCtorEq, Int.reduceEq, Int.reduceLT, Int.reduceLE, Int.reduceAdd, Int.reduceSub, Int.reduceMul, Int.reduceNeg, MV.top, kt_98, ti3, ti4, ti9, ti20, ti69, ti80]
    | refine And.intro ?_ ?_
    | (refine hK _ ?_; clear hK K)
    | (refine hK _ ?_ ?_ <;> clear hK K)
    | apply_assumption (exfalso := false) (symm := false) only [*]
    | refine PW.ret ?_
    | refine PW.skip ?_
    | refine PW.exit ?_
    | refine PW.block ?_
    | refine PW.condT rfl ?_
    | refine PW.condF rfl ?_
    | (refine PW.condD rfl (fun hc => ?_) (fun hc => ?_) <;> first | (exfalso; omega) | skip)
    | (refine PW.condN rfl (fun hc => ?_) (fun hc => ?_) <;> first | (exfalso; omega) | skip)
    | refine PW.cond rfl (fun hc => ?_) (fun hc => ?_)
    | refine PW.regQ [] ?_
    | refine PW.drawG sc_98 [] hmix (by kernel_rfl) (fun K hK => ?_)
    | refine PW.label ?_
    | omega
    | (split <;> first | contradiction | skip)
  refine PW.sregN kt_98 [] (fun K hK => ?_)
  repeat' first
    | exact True.intro
    | refine runQ_step (fun K hK => ?_)
    | refine runQ_end ?_
    | simp only [push_cast, ↓reduceIte, Nat.reduceAdd, Nat.reduceSub, Nat.reduceMul, Nat.reduceEqDiff, Nat.reduceLT, Nat.reduceLeDiff, Int.reduceToNat, reduceCtorEq, Int.reduceEq, Int.reduceLT, Int.reduceLE, Int.reduceAdd, Int.reduceSub, Int.reduceMul, Int.reduceNeg, MV.top, kt_98, ti3, ti4, ti9, ti20, ti69, ti80]
    | refine And.intro ?_ ?_
    | (refine hK _ ?_; clear hK K)
    | (refine hK _ ?_ ?_ <;> clear hK K)
    | apply_assumption (exfalso := false) (symm := false) only [*]
    | refine PW.ret ?_
    | refine PW.skip ?_
    | refine PW.exit ?_
    | refine PW.block ?_
    | refine PW.condT rfl ?_
    | refine PW.condF rfl ?_
    | (refine PW.condD rfl (fun hc => ?_) (fun hc => ?_) <;> first | (exfalso; omega) | skip)
    | (refine PW.condN rfl (fun hc => ?_) (fun hc => ?_) <;> first | (exfalso; omega) | skip)
    | refine PW.cond rfl (fun hc => ?_) (fun hc => ?_)
    | refine PW.regQ [] ?_
    | refine PW.drawG sc_98 [] hmix (by kernel_rfl) (fun K hK => ?_)
    | refine PW.label ?_
    | omega
    | (split <;> first | contradiction | skip)
  refine PW.cut [0, 3] ⟨[(0, .sh (.list (bss.map fun bs => [.list (bs.map boolc)]))), (3, .sh (.int .i64 (bss.flatten.length : Int)))], B⟩ ?_ ?_
  · skip
    repeat' first
      | exact True.intro
      | refine runQ_step (fun K hK => ?_)
      | refine runQ_end ?_
      | refine PW.sregN kt_98 [] (fun K hK => ?_)
      | simp only [push_cast, ↓reduceIte, Nat.reduceAdd, Nat.reduceSub, Nat.reduceMul, Nat.reduceEqDiff, Nat.reduceLT, Nat.reduceLeDiff, Int.reduceToNat, reduceCtorEq, Int.reduceEq, Int.reduceLT, Int.reduceLE, Int.reduceAdd, Int.reduceSub, Int.reduceMul, Int.reduceNeg, MV.top, kt_98, ti3, ti4, ti9, ti20, ti69, ti80, List.length_map]
      | refine And.intro ?_ ?_
      | (refine hK _ ?_; clear hK K)
      | (refine hK _ ?_ ?_ <;> clear hK K)
      | apply_assumption (exfalso := false) (symm := false) only [*]
      | refine PW.seq (fun K hK => ?_)
      | refine PW.ret ?_
      | refine PW.skip ?_
      | refine PW.exit ?_
      | refine PW.block ?_
      | refine PW.condT rfl ?_
      | refine PW.condF rfl ?_
      | (refine PW.condD rfl (fun hc => ?_) (fun hc => ?_) <;> first | (exfalso; omega) | skip)
      | (refine PW.condN rfl (fun hc => ?_) (fun hc => ?_) <;> first | (exfalso; omega) | skip)
      | refine PW.cond rfl (fun hc => ?_) (fun hc => ?_)
      | refine PW.regQ [] ?_
      | refine PW.sdrawG kt_98 sc_98 [] hmix (by kernel_rfl) (fun K hK => ?_)
      | refine PW.drawG sc_98 [] hmix (by kernel_rfl) (fun K hK => ?_)
      | refine PW.label ?_
      | omega
      | (split <;> first | contradiction | skip)
    refine PW.loopN [0, 3, 9, 10, 11] (fun i : Nat => ⟨[(0, .sh (.list (bss.map fun bs => [.list (bs.map boolc)]))), (3, .sh (.int .i64 (lenT bss i : Int))), (9, .sh (.list (bss.map fun bs => [.list (bs.map boolc)]))), (10, .sh (.int .i64 bss.length)), (11, .sh (.int .i64 (i : Int)))], B⟩) (fun i => i ≤ bss.length) (fun i => bss.length - i) 0 ?_ (Nat.zero_le _) (fun i hi => ?_)
    · simp only [push_cast, ↓reduceIte, Nat.reduceAdd, Nat.reduceSub, Nat.reduceMul, Nat.reduceEqDiff, Nat.reduceLT, Nat.reduceLeDiff, Int.reduceToNat, reduceCtorEq, Int.reduceEq, Int.reduceLT, Int.reduceLE, Int.reduceAdd, Int.reduceSub, Int.reduceMul, Int.reduceNeg, MV.top, kt_98, ti3, ti4, ti9, ti20, ti69, ti80, List.length_map]
      rfl
    by_cases hi2 : i < bss.length
    · have hge := rows_get hi2
      unfold bools at hge
      have hi3 : (i : Int) < bss.length := by omega
      have hs := lenT_succ hi2
      have h1 := hlt i
      have h2 := hlt (i + 1)
      have hwi := wrap_nat (i := i) (by omega)
      have hw : IntKind.i64.wrap ((lenT bss i : Int) + bss[i].length) = (lenT bss (i + 1) : Nat) := by rw [hs]; exact wrap_id (by omega) (by omega)
      have hn0 : ¬ ((lenT bss (i + 1) : Nat) : Int) < 0 := by omega
      generalize bss[i] = bs at *
      repeat' first
        | exact True.intro
        | refine runQ_step (fun K hK => ?_)
        | refine runQ_end ?_
        | refine PW.sregN kt_98 [] (fun K hK => ?_)
        | simp only [push_cast, ↓reduceIte, Nat.reduceAdd, Nat.reduceSub, Nat.reduceMul, Nat.reduceEqDiff, Nat.reduceLT, Nat.reduceLeDiff, Int.reduceToNat, reduceCtorEq, Int.reduceEq, Int.reduceLT, Int.reduceLE, Int.reduceAdd, Int.reduceSub, Int.reduceMul, Int.reduceNeg, MV.top, kt_98, ti3, ti4, ti9, ti20, ti69, ti80, hi3, hge, hwi, hw, hn0, Int.toNat_natCast, List.length_map]
        | refine And.intro ?_ ?_
        | (refine hK _ ?_; clear hK K)
        | (refine hK _ ?_ ?_ <;> clear hK K)
        | apply_assumption (exfalso := false) (symm := false) only [*]
        | refine PW.seq (fun K hK => ?_)
        | refine PW.ret ?_
        | refine PW.skip ?_
        | refine PW.exit ?_
        | refine PW.block ?_
        | refine PW.condT rfl ?_
        | refine PW.condF rfl ?_
        | (refine PW.condD rfl (fun hc => ?_) (fun hc => ?_) <;> first | (exfalso; omega) | skip)
        | (refine PW.condN rfl (fun hc => ?_) (fun hc => ?_) <;> first | (exfalso; omega) | skip)
        | refine PW.cond rfl (fun hc => ?_) (fun hc => ?_)
        | refine PW.regQ [] ?_
        | refine PW.sdrawG kt_98 sc_98 [] hmix (by kernel_rfl) (fun K hK => ?_)
        | refine PW.drawG sc_98 [] hmix (by kernel_rfl) (fun K hK => ?_)
        | refine PW.label ?_
        | omega
        | (split <;> first | contradiction | skip)
      all_goals exact ⟨i + 1, rfl, by omega, by omega⟩
    · have hi3 : ¬ (i : Int) < bss.length := by omega
      have : lenT bss i = bss.flatten.length := by unfold lenT; rw [List.take_of_length_le (by omega)]
      rw [this]
      repeat' first
        | exact True.intro
        | refine runQ_step (fun K hK => ?_)
        | refine runQ_end ?_
        | refine PW.sregN kt_98 [] (fun K hK => ?_)
        | simp only [push_cast, ↓reduceIte, Nat.reduceAdd, Nat.reduceSub, Nat.reduceMul, Nat.reduceEqDiff, Nat.reduceLT, Nat.reduceLeDiff, Int.reduceToNat, reduceCtorEq, Int.reduceEq, Int.reduceLT, Int.reduceLE, Int.reduceAdd, Int.reduceSub, Int.reduceMul, Int.reduceNeg, MV.top, kt_98, ti3, ti4, ti9, ti20, ti69, ti80, hi3]
        | refine And.intro ?_ ?_
        | (refine hK _ ?_; clear hK K)
        | (refine hK _ ?_ ?_ <;> clear hK K)
        | apply_assumption (exfalso := false) (symm := false) only [*]
        | refine PW.seq (fun K hK => ?_)
        | refine PW.ret ?_
        | refine PW.skip ?_
        | refine PW.exit ?_
        | refine PW.block ?_
        | refine PW.condT rfl ?_
        | refine PW.condF rfl ?_
        | (refine PW.condD rfl (fun hc => ?_) (fun hc => ?_) <;> first | (exfalso; omega) | skip)
        | (refine PW.condN rfl (fun hc => ?_) (fun hc => ?_) <;> first | (exfalso; omega) | skip)
        | refine PW.cond rfl (fun hc => ?_) (fun hc => ?_)
        | refine PW.regQ [] ?_
        | refine PW.sdrawG kt_98 sc_98 [] hmix (by kernel_rfl) (fun K hK => ?_)
        | refine PW.drawG sc_98 [] hmix (by kernel_rfl) (fun K hK => ?_)
        | refine PW.label ?_
        | omega
        | (split <;> first | contradiction | skip)
  · skip
    refine PW.sregN kt_98 [] (fun K hK => ?_)
    repeat' first
      | exact True.intro
      | refine runQ_step (fun K hK => ?_)
      | refine runQ_end ?_
      | simp only [push_cast, ↓reduceIte, Nat.reduceAdd, Nat.reduceSub, Nat.reduceMul, Nat.reduceEqDiff, Nat.reduceLT, Nat.reduceLeDiff, Int.reduceToNat, reduceCtorEq, Int.reduceEq, Int.reduceLT, Int.reduceLE, Int.reduceAdd, Int.reduceSub, Int.reduceMul, Int.reduceNeg, MV.top, kt_98, ti3, ti4, ti9, ti20, ti69, ti80]
      | refine And.intro ?_ ?_
      | (refine hK _ ?_; clear hK K)
      | (refine hK _ ?_ ?_ <;> clear hK K)
      | apply_assumption (exfalso := false) (symm := false) only [*]
      | refine calP_nil (ms := [.nil, .int .i64 _]) (cs := []) rfl rfl rfl hg ?_
      | refine PW.ret ?_
      | refine PW.skip ?_
      | refine PW.exit ?_
      | refine PW.block ?_
      | refine PW.condT rfl ?_
      | refine PW.condF rfl ?_
      | (refine PW.condD rfl (fun hc => ?_) (fun hc => ?_) <;> first | (exfalso; omega) | skip)
      | (refine PW.condN rfl (fun hc => ?_) (fun hc => ?_) <;> first | (exfalso; omega) | skip)
      | refine PW.cond rfl (fun hc => ?_) (fun hc => ?_)
      | refine PW.regQ [] ?_
      | refine PW.drawG sc_98 [] hmix (by kernel_rfl) (fun K hK => ?_)
      | refine PW.label ?_
      | omega
      | (split <;> first | contradiction | skip)
    repeat' first
      | exact True.intro
      | refine runQ_step (fun K hK => ?_)
      | refine runQ_end ?_
      | refine PW.sregN kt_98 [] (fun K hK => ?_)
      | simp only [push_cast, ↓reduceIte, Nat.reduceAdd, Nat.reduceSub, Nat.reduceMul, Nat.reduceEqDiff, Nat.reduceLT, Nat.reduceLeDiff, Int.reduceToNat, reduceCtorEq, Int.reduceEq, Int.reduceLT, Int.reduceLE, Int.reduceAdd, Int.reduceSub, Int.reduceMul, Int.reduceNeg, MV.top, kt_98, ti3, ti4, ti9, ti20, ti69, ti80, List.length_map]
      | refine And.intro ?_ ?_
      | (refine hK _ ?_; clear hK K)
      | (refine hK _ ?_ ?_ <;> clear hK K)
      | apply_assumption (exfalso := false) (symm := false) only [*]
      | refine PW.seq (fun K hK => ?_)
      | refine PW.ret ?_
      | refine PW.skip ?_
      | refine PW.exit ?_
      | refine PW.block ?_
      | refine PW.condT rfl ?_
      | refine PW.condF rfl ?_
      | (refine PW.condD rfl (fun hc => ?_) (fun hc => ?_) <;> first | (exfalso; omega) | skip)
      | (refine PW.condN rfl (fun hc => ?_) (fun hc => ?_) <;> first | (exfalso; omega) | skip)
      | refine PW.cond rfl (fun hc => ?_) (fun hc => ?_)
      | refine PW.regQ [] ?_
      | refine PW.sdrawG kt_98 sc_98 [] hmix (by kernel_rfl) (fun K hK => ?_)
      | refine PW.drawG sc_98 [] hmix (by kernel_rfl) (fun K hK => ?_)
      | refine PW.label ?_
      | omega
      | (split <;> first | contradiction | skip)
    refine PW.loopN [6, 25, 26, 27] (fun i : Nat => ⟨[(6, .own 1 (.list ((bss.take i).flatten.map boolc))), (25, .sh (.list (bss.map fun bs => [.list (bs.map boolc)]))), (26, .sh (.int .i64 bss.length)), (27, .sh (.int .i64 (i : Int)))], B⟩) (fun i => i ≤ bss.length) (fun i => bss.length - i) 0 ?_ (Nat.zero_le _) (fun i hi => ?_)
    · simp only [push_cast, ↓reduceIte, Nat.reduceAdd, Nat.reduceSub, Nat.reduceMul, Nat.reduceEqDiff, Nat.reduceLT, Nat.reduceLeDiff, Int.reduceToNat, reduceCtorEq, Int.reduceEq, Int.reduceLT, Int.reduceLE, Int.reduceAdd, Int.reduceSub, Int.reduceMul, Int.reduceNeg, MV.top, kt_98, ti3, ti4, ti9, ti20, ti69, ti80, List.length_map]
      rfl
    by_cases hi2 : i < bss.length
    · have hge := rows_get hi2
      unfold bools at hge
      have hi3 : (i : Int) < bss.length := by omega
      have hs := lenT_succ hi2
      have h1 := hlt i
      have h2 := hlt (i + 1)
      have hwi := wrap_nat (i := i) (by omega)
      have hfs : (bss.take i).flatten.map boolc ++ bss[i].map boolc = (bss.take (i + 1)).flatten.map boolc := by rw [flat_succ hi2, List.map_append]
      have hle : (bss.take i).flatten.length + bss[i].length ≤ 1000000000 := by unfold lenT at h2 hs h1; omega
      generalize bss[i] = bs at *
      have hbl := boolc_len bs
      repeat' first
        | exact True.intro
        | refine runQ_step (fun K hK => ?_)
        | refine runQ_end ?_
        | refine PW.sregN kt_98 [] (fun K hK => ?_)
        | simp only [push_cast, ↓reduceIte, Nat.reduceAdd, Nat.reduceSub, Nat.reduceMul, Nat.reduceEqDiff, Nat.reduceLT, Nat.reduceLeDiff, Int.reduceToNat, reduceCtorEq, Int.reduceEq, Int.reduceLT, Int.reduceLE, Int.reduceAdd, Int.reduceSub, Int.reduceMul, Int.reduceNeg, MV.top, kt_98, ti3, ti4, ti9, ti20, ti69, ti80, hi3, hge, hwi, hfs, hle, hbl, Int.toNat_natCast, List.length_map]
        | refine And.intro ?_ ?_
        | (refine hK _ ?_; clear hK K)
        | (refine hK _ ?_ ?_ <;> clear hK K)
        | apply_assumption (exfalso := false) (symm := false) only [*]
        | refine PW.seq (fun K hK => ?_)
        | refine PW.ret ?_
        | refine PW.skip ?_
        | refine PW.exit ?_
        | refine PW.block ?_
        | refine PW.condT rfl ?_
        | refine PW.condF rfl ?_
        | (refine PW.condD rfl (fun hc => ?_) (fun hc => ?_) <;> first | (exfalso; omega) | skip)
        | (refine PW.condN rfl (fun hc => ?_) (fun hc => ?_) <;> first | (exfalso; omega) | skip)
        | refine PW.cond rfl (fun hc => ?_) (fun hc => ?_)
        | refine PW.regQ [] ?_
        | refine PW.sdrawG kt_98 sc_98 [] hmix (by kernel_rfl) (fun K hK => ?_)
        | refine PW.drawG sc_98 [] hmix (by kernel_rfl) (fun K hK => ?_)
        | refine PW.label ?_
        | omega
        | (split <;> first | contradiction | skip)
      all_goals exact ⟨i + 1, rfl, by omega, by omega⟩
    · have hi3 : ¬ (i : Int) < bss.length := by omega
      have : bss.take i = bss := List.take_of_length_le (by omega)
      rw [this]
      repeat' first
        | exact True.intro
        | refine runQ_step (fun K hK => ?_)
        | refine runQ_end ?_
        | refine PW.sregN kt_98 [] (fun K hK => ?_)
        | simp only [push_cast, ↓reduceIte, Nat.reduceAdd, Nat.reduceSub, Nat.reduceMul, Nat.reduceEqDiff, Nat.reduceLT, Nat.reduceLeDiff, Int.reduceToNat, reduceCtorEq, Int.reduceEq, Int.reduceLT, Int.reduceLE, Int.reduceAdd, Int.reduceSub, Int.reduceMul, Int.reduceNeg, MV.top, kt_98, ti3, ti4, ti9, ti20, ti69, ti80, hi3]
        | refine And.intro ?_ ?_
        | (refine hK _ ?_; clear hK K)
        | (refine hK _ ?_ ?_ <;> clear hK K)
        | apply_assumption (exfalso := false) (symm := false) only [*]
        | refine PW.seq (fun K hK => ?_)
        | refine PW.ret ?_
        | refine PW.skip ?_
        | refine PW.exit ?_
        | refine PW.block ?_
        | refine PW.condT rfl ?_
        | refine PW.condF rfl ?_
        | (refine PW.condD rfl (fun hc => ?_) (fun hc => ?_) <;> first | (exfalso; omega) | skip)
        | (refine PW.condN rfl (fun hc => ?_) (fun hc => ?_) <;> first | (exfalso; omega) | skip)
        | refine PW.cond rfl (fun hc => ?_) (fun hc => ?_)
        | refine PW.regQ [] ?_
        | refine PW.sdrawG kt_98 sc_98 [] hmix (by kernel_rfl) (fun K hK => ?_)
        | refine PW.drawG sc_98 [] hmix (by kernel_rfl) (fun K hK => ?_)
        | refine PW.label ?_
        | omega
        | (split <;> first | contradiction | skip)
end Go.Pv

