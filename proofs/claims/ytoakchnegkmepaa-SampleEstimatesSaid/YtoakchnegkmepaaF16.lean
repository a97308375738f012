/- Contracts of estimates. -/
import Derived.Test.YtoakchnegkmepaaF15
import Derived.Test.YtoakchnegkmepaaF8
set_option linter.unusedSimpArgs false
set_option linter.unusedVariables false
set_option maxRecDepth 100000
set_option maxHeartbeats 4000000
namespace Go.Pv
open Go Go.Proofs
attribute [local irreducible] PW Dr DrS DrN DrG DrH Spec SpecB runQ opP calP gdP Still

abbrev D3 := Int × Int × Int
def d3c (d : D3) : List MV := [.int .i64 d.1, .int .i64 d.2.1, .int .i64 d.2.2]
def d3s (ds : List D3) : MV := .list (ds.map d3c)
def d3ok (d : D3) : Bool := drawnOk d.1 d.2.1 d.2.2
def efV (ds : List D3) : Int := firstV (ds.map fun d => whenV (!d3ok d) 1)
def estStep (q : Int × Int) (d : D3) : Int × Int :=
  ((q.1 * d.2.1 + d.1 * d.2.2 * q.2).tdiv (gcdV (q.1 * d.2.1 + d.1 * d.2.2 * q.2) (q.2 * d.2.1)), (q.2 * d.2.1).tdiv (gcdV (q.1 * d.2.1 + d.1 * d.2.2 * q.2) (q.2 * d.2.1)))
def estV (ds : List D3) : Int × Int := ds.foldl estStep (0, 1)

theorem d3_get {ds : List D3} {i : Nat} (h : i < ds.length) : (ds.map d3c)[i]? = some [.int .i64 ds[i].1, .int .i64 ds[i].2.1, .int .i64 ds[i].2.2] := by simp [h, d3c]

theorem efV_drop {ds : List D3} {i : Nat} (h : i < ds.length) : efV (ds.drop i) = if d3ok ds[i] = true then efV (ds.drop (i + 1)) else 1 := by
  unfold efV
  rw [List.drop_eq_getElem_cons h, List.map_cons]
  cases hk : d3ok ds[i] with
  | true => rfl
  | false => rfl

structure EBd (k : Nat) (q : Int × Int) : Prop where
  n0 : 0 ≤ q.1
  n1 : q.1 ≤ 2000 * k * q.2
  d0 : 1 ≤ q.2
  d1 : q.2 ≤ ((60 ^ k : Nat) : Int)

theorem d3_bd {d : D3} (h : d3ok d = true) : (1 ≤ d.1 ∧ d.1 ≤ 2000) ∧ (1 ≤ d.2.1 ∧ d.2.1 ≤ 60) ∧ (0 ≤ d.2.2 ∧ d.2.2 ≤ d.2.1) := by
  simp only [d3ok, drawnOk, inV, Bool.and_eq_true, decide_eq_true_eq] at h
  obtain ⟨⟨h1, h2⟩, h3⟩ := h
  have : mm2 false 60 d.1 ≤ 60 := by simp only [mm2, Bool.false_eq_true, if_false]; split <;> omega
  omega

theorem pow60 {k : Nat} (h : k ≤ 5) : ((60 ^ k : Nat) : Int) ≤ 777600000 := by
  have : 60 ^ k ≤ 60 ^ 5 := Nat.pow_le_pow_right (by omega) h
  have h2 : (60 ^ 5 : Nat) = 777600000 := by decide
  omega

theorem est_step {k : Nat} {q : Int × Int} {d : D3} (h : EBd k q) (hd : d3ok d = true) (hk : k ≤ 4) :
    (0 ≤ q.1 * d.2.1 ∧ q.1 * d.2.1 ≤ 466560000000000) ∧ (0 ≤ d.1 * d.2.2 ∧ d.1 * d.2.2 ≤ 120000) ∧ (0 ≤ d.1 * d.2.2 * q.2 ∧ d.1 * d.2.2 * q.2 ≤ 93312000000000) ∧ (1 ≤ q.2 * d.2.1 ∧ q.2 * d.2.1 ≤ 46656000000) ∧ EBd (k + 1) (estStep q d) := by
  obtain ⟨hp, hs, hf⟩ := d3_bd hd
  obtain ⟨n0, n1, e0, e1⟩ := h
  have hpw := pow60 (k := k) (by omega)
  have hq2 : q.2 ≤ 777600000 := by omega
  have hq1 : q.1 ≤ 7776000000000 := by
    have : 2000 * (k : Int) * q.2 ≤ 10000 * 777600000 := (mul_bd (by omega) (by omega) (by omega) hq2).2
    omega
  have b1 := mul_bd n0 hq1 (show 0 ≤ d.2.1 by omega) hs.2
  have b2 := mul_bd (show 0 ≤ d.1 by omega) hp.2 hf.1 (show d.2.2 ≤ 60 by omega)
  have b3 := mul_bd b2.1 b2.2 (show 0 ≤ q.2 by omega) hq2
  have b4 := mul_bd (show 0 ≤ q.2 by omega) hq2 (show 0 ≤ d.2.1 by omega) hs.2
  have b4' : 1 ≤ q.2 * d.2.1 := by
    have := Int.mul_le_mul e0 hs.1 (by omega) (by omega)
    omega
  refine ⟨⟨b1.1, by omega⟩, ⟨b2.1, by omega⟩, ⟨b3.1, by omega⟩, ⟨b4', by omega⟩, ?_⟩
  -- the bound of the sum
  have c1 : q.1 * d.2.1 ≤ 2000 * k * q.2 * d.2.1 := Int.mul_le_mul_of_nonneg_right n1 (by omega)
  have c2 : d.1 * d.2.2 * q.2 ≤ 2000 * d.2.1 * q.2 := Int.mul_le_mul_of_nonneg_right ((mul_bd (show 0 ≤ d.1 by omega) hp.2 hf.1 hf.2).2) (by omega)
  have c3 : 2000 * (k : Int) * q.2 * d.2.1 + 2000 * d.2.1 * q.2 = 2000 * (k + 1) * (q.2 * d.2.1) := by
    rw [Int.mul_add, Int.add_mul, Int.mul_one, Int.mul_assoc (2000 * (k : Int)), Int.mul_assoc 2000 d.2.1, Int.mul_comm d.2.1]
  have c4 : q.2 * d.2.1 ≤ ((60 ^ (k + 1) : Nat) : Int) := by
    have := Int.mul_le_mul e1 hs.2 (by omega) (by omega)
    rw [Nat.pow_succ]
    omega
  unfold estStep
  generalize ha : q.1 * d.2.1 + d.1 * d.2.2 * q.2 = a at *
  generalize hb : q.2 * d.2.1 = b at *
  have ha0 : 0 ≤ a := by omega
  have hab : a ≤ 2000 * (k + 1) * b := by omega
  have hg := gcdV_pos (n := a) (show b ≠ 0 by omega)
  have hda : gcdV a b ∣ a := Int.gcd_dvd_left ..
  have hdb : gcdV a b ∣ b := Int.gcd_dvd_right ..
  generalize gcdV a b = g at *
  obtain ⟨x, hx⟩ := hda
  obtain ⟨y, hy⟩ := hdb
  have hxa : a.tdiv g = x := by rw [hx]; exact Int.mul_tdiv_cancel_left x (by omega)
  have hyb : b.tdiv g = y := by rw [hy]; exact Int.mul_tdiv_cancel_left y (by omega)
  rw [hxa, hyb]
  have hx0 : 0 ≤ x := by
    by_cases h : x < 0
    · have := Int.mul_neg_of_pos_of_neg hg h
      omega
    · omega
  have hy0 : 1 ≤ y := by
    by_cases h : 0 < y
    · omega
    · have := Int.mul_nonpos_of_nonneg_of_nonpos (show 0 ≤ g by omega) (show y ≤ 0 by omega)
      omega
  have hyb2 : y ≤ b := by
    have : 1 * y ≤ g * y := Int.mul_le_mul_of_nonneg_right (by omega) (by omega)
    omega
  refine ⟨hx0, ?_, hy0, by simp only; omega⟩
  simp only
  have h3 : g * x ≤ g * (2000 * ((k + 1 : Nat) : Int) * y) := by
    have : g * (2000 * ((k + 1 : Nat) : Int) * y) = 2000 * (k + 1) * b := by
      rw [hy, Int.natCast_add, Int.natCast_one, ← Int.mul_assoc, Int.mul_comm g (2000 * (k + 1)), Int.mul_assoc]
    rw [this, ← hx]; exact hab
  exact Int.le_of_mul_le_mul_left h3 hg

theorem wrap_ok {x : Int} (h : 0 ≤ x ∧ x ≤ 4611686018427387904) : IntKind.i64.wrap x = x := wrap_id (by omega) (by omega)

/-- What is read later. -/
def kt_28 : List (Nat × List Nat) := [(0, [0, 2]), (1, [0, 2, 10]), (2, [2, 3]), (3, [0, 2, 4]), (4, [0, 2, 4, 13, 14, 15]), (5, [0, 2, 4, 13, 14, 15, 16]), (6, [0, 2, 4, 6, 13, 14, 15]), (7, [0, 2, 4, 6, 7, 13, 14, 15]), (8, [0, 2, 4, 6, 7, 13, 14, 15, 22]), (9, [2, 3]), (10, [0, 2, 4, 13, 14, 15]), (11, [0, 2, 4, 13, 14, 15]), (12, [2, 3])]
def estN (ds : List D3) : Int := if efV ds = 0 then (estV ds).1 else 0
def estD (ds : List D3) : Int := if efV ds = 0 then (estV ds).2 else 0
theorem np_d3s (ds : List D3) : np (d3s ds) = true := by
  unfold d3s
  simp only [np]
  induction ds with
  | nil => rfl
  | cons a r ih => simp only [List.map_cons, npLL, npL, np, d3c, Bool.and_true, Bool.true_and]; exact ih

theorem Estimate_big (ds : List D3) (h5 : 5 < ds.length) : Spec Try.prog 28 [d3s ds] [(none, fracV 0 0), (none, .int .i64 2)] := by
  have hnp := np_d3s ds
  have h5i : (5 : Int) < ds.length := by omega
  unfold d3s fracV at *
  refine spec_of0 (nt := 47) (rs := [.cell 2 30, .tmp 3]) Try.func28 rfl rfl rfl rfl (by simp) (by simp [np, npL]) (by intro x hx; simp only [List.mem_cons, List.not_mem_nil, or_false] at hx; subst hx; exact hnp) ?_
  repeat' first
    | exact True.intro
    | refine runQ_step (fun K hK => ?_)
    | refine runQ_end ?_
    | refine PW.sregN kt_28 [] (fun K hK => ?_)
    | simp only [push_cast, ↓reduceIte, Nat.reduceAdd, Nat.reduceSub, Nat.reduceMul, Nat.reduceEqDiff, Nat.reduceLT, Nat.reduceLeDiff, Int.reduceToNat, reduceCtorEq, Int.reduceEq, Int.reduceLT, Int.reduceLE, Int.reduceAdd, Int.reduceSub, Int.reduceMul, Int.reduceNeg, MV.top, kt_28, ti1, ti2, ti3, ti4, ti27, ti30, ti32, ti45, eqt27, eqt30, h5i, List.length_map]
    | refine And.intro ?_ ?_
    | (refine hK _ ?_; clear hK K)
    | (refine hK _ ?_ ?_ <;> clear hK K)
    | apply_assumption (exfalso := false) (symm := false) only [*]
    | refine PW.seq (fun K hK => ?_)
    | refine PW.ret ?_
    | refine PW.skip ?_
    | refine PW.exit ?_
    | refine PW.block ?_
    | refine PW.condT rfl ?_
    | refine PW.condF rfl ?_
    | (refine PW.condD rfl (fun hc => ?_) (fun hc => ?_) <;> first | (exfalso; omega) | skip)
    | (refine PW.condN rfl (fun hc => ?_) (fun hc => ?_) <;> first | (exfalso; omega) | skip)
    | refine PW.cond rfl (fun hc => ?_) (fun hc => ?_)
    | refine PW.regQ [] ?_
    | refine PW.sdrawG kt_28 sc_28 [] hmix (by kernel_rfl) (fun K hK => ?_)
    | refine PW.drawG sc_28 [] hmix (by kernel_rfl) (fun K hK => ?_)
    | refine PW.label ?_
    | omega
    | (split <;> first | contradiction | skip)

theorem Estimate_spec (ds : List D3) (h5 : ¬ 5 < ds.length) : Spec Try.prog 28 [d3s ds] [(none, fracV (estN ds) (estD ds)), (none, .int .i64 (efV ds))] := by
  have hnp := np_d3s ds
  have h5i : ¬ (5 : Int) < ds.length := by omega
  unfold d3s fracV at *
  refine spec_of0 (nt := 47) (rs := [.cell 2 30, .tmp 3]) Try.func28 rfl rfl rfl rfl (by simp) (by simp [np, npL]) (by intro x hx; simp only [List.mem_cons, List.not_mem_nil, or_false] at hx; subst hx; exact hnp) ?_
  clear hnp
  repeat' first
    | exact True.intro
    | refine runQ_step (fun K hK => ?_)
    | refine runQ_end ?_
    | refine PW.sregN kt_28 [] (fun K hK => ?_)
    | simp only [push_cast, ↓reduceIte, Nat.reduceAdd, Nat.reduceSub, Nat.reduceMul, Nat.reduceEqDiff, Nat.reduceLT, Nat.reduceLeDiff, Int.reduceToNat, reduceCtorEq, Int.reduceEq, Int.reduceLT, Int.reduceLE, Int.reduceAdd, Int.reduceSub, Int.reduceMul, Int.reduceNeg, MV.top, kt_28, ti1, ti2, ti3, ti4, ti27, ti30, ti32, ti45, eqt27, eqt30, h5i, List.length_map]
    | refine And.intro ?_ ?_
    | (refine hK _ ?_; clear hK K)
    | (refine hK _ ?_ ?_ <;> clear hK K)
    | apply_assumption (exfalso := false) (symm := false) only [*]
    | refine PW.seq (fun K hK => ?_)
    | refine PW.ret ?_
    | refine PW.skip ?_
    | refine PW.exit ?_
    | refine PW.block ?_
    | refine PW.condT rfl ?_
    | refine PW.condF rfl ?_
    | (refine PW.condD rfl (fun hc => ?_) (fun hc => ?_) <;> first | (exfalso; omega) | skip)
    | (refine PW.condN rfl (fun hc => ?_) (fun hc => ?_) <;> first | (exfalso; omega) | skip)
    | refine PW.cond rfl (fun hc => ?_) (fun hc => ?_)
    | refine PW.regQ [] ?_
    | refine PW.sdrawG kt_28 sc_28 [] hmix (by kernel_rfl) (fun K hK => ?_)
    | refine PW.drawG sc_28 [] hmix (by kernel_rfl) (fun K hK => ?_)
    | refine PW.label ?_
    | omega
    | (split <;> first | contradiction | skip)
  refine PW.loopN [2, 4, 13, 14, 15] (fun q : Nat × (Int × Int) × List (Option (List Ct)) => ⟨[(2, .sh (.ptr 0 0)), (4, .sh (.ptr 1 0)), (13, .sh (.list (ds.map d3c))), (14, .sh (.int .i64 ds.length)), (15, .sh (.int .i64 (q.1 : Int)))], some [.sh (.int .i64 0), .sh (.int .i64 0)] :: some [.sh (.int .i64 q.2.1.1), .sh (.int .i64 q.2.1.2)] :: q.2.2⟩)
    (fun q => q.1 ≤ ds.length ∧ q.2.1 = (ds.take q.1).foldl estStep (0, 1) ∧ EBd q.1 q.2.1 ∧ efV (ds.drop q.1) = efV ds) (fun q => ds.length - q.1) (0, (0, 1), []) ?_ ⟨Nat.zero_le _, rfl, ⟨by simp, by simp, by simp, by simp⟩, rfl⟩ (fun q hq => ?_)
  · simp only [push_cast, ↓reduceIte, Nat.reduceAdd, Nat.reduceSub, Nat.reduceMul, Nat.reduceEqDiff, Nat.reduceLT, Nat.reduceLeDiff, Int.reduceToNat, reduceCtorEq, Int.reduceEq, Int.reduceLT, Int.reduceLE, Int.reduceAdd, Int.reduceSub, Int.reduceMul, Int.reduceNeg, MV.top, kt_28, ti1, ti2, ti3, ti4, ti27, ti30, ti32, ti45]
  obtain ⟨i, ⟨n, d⟩, rest⟩ := q
  obtain ⟨h1, h2, h3, h4⟩ := hq
  simp only at h1 h2 h3 h4 ⊢
  by_cases hlt : i < ds.length
  · have hge := d3_get hlt
    have hef := efV_drop hlt
    have hlt2 : (i : Int) < ds.length := by omega
    have htk : (ds.take (i + 1)).foldl estStep (0, 1) = estStep (n, d) ds[i] := by rw [List.take_succ_eq_append_getElem hlt, List.foldl_append, ← h2]; rfl
    rw [hef] at h4
    clear hef
    generalize ds[i] = dd at *
    obtain ⟨p, s, f⟩ := dd
    have e1 := CheckDrawn_spec p s f
    cases hk : d3ok (p, s, f) with
    | false =>
      rw [hk, if_neg (by simp)] at h4
      have hk2 : drawnOk p s f = false := hk
      rw [hk2] at e1
      have hN : estN ds = 0 := by unfold estN; rw [← h4]; rfl
      have hD : estD ds = 0 := by unfold estD; rw [← h4]; rfl
      rw [hN, hD, ← h4]
      unfold drawnM at e1
      repeat' first
        | exact True.intro
        | refine runQ_step (fun K hK => ?_)
        | refine runQ_end ?_
        | refine PW.sregN kt_28 [] (fun K hK => ?_)
        | simp only [push_cast, ↓reduceIte, Nat.reduceAdd, Nat.reduceSub, Nat.reduceMul, Nat.reduceEqDiff, Nat.reduceLT, Nat.reduceLeDiff, Int.reduceToNat, reduceCtorEq, Int.reduceEq, Int.reduceLT, Int.reduceLE, Int.reduceAdd, Int.reduceSub, Int.reduceMul, Int.reduceNeg, MV.top, kt_28, ti1, ti2, ti3, ti4, ti27, ti30, ti32, ti45, eqt27, eqt30, hge, hlt2, Int.toNat_natCast, List.length_map, whenV]
        | refine And.intro ?_ ?_
        | (refine hK _ ?_; clear hK K)
        | (refine hK _ ?_ ?_ <;> clear hK K)
        | apply_assumption (exfalso := false) (symm := false) only [*]
        | refine calP_lent rfl rfl e1 rfl ?_
        | refine PW.seq (fun K hK => ?_)
        | refine PW.ret ?_
        | refine PW.skip ?_
        | refine PW.exit ?_
        | refine PW.block ?_
        | refine PW.condT rfl ?_
        | refine PW.condF rfl ?_
        | (refine PW.condD rfl (fun hc => ?_) (fun hc => ?_) <;> first | (exfalso; omega) | skip)
        | (refine PW.condN rfl (fun hc => ?_) (fun hc => ?_) <;> first | (exfalso; omega) | skip)
        | refine PW.cond rfl (fun hc => ?_) (fun hc => ?_)
        | refine PW.regQ [] ?_
        | refine PW.sdrawG kt_28 sc_28 [] hmix (by kernel_rfl) (fun K hK => ?_)
        | refine PW.drawG sc_28 [] hmix (by kernel_rfl) (fun K hK => ?_)
        | refine PW.label ?_
        | omega
        | (split <;> first | contradiction | skip)
    | true =>
      rw [hk, if_pos rfl] at h4
      have hk2 : drawnOk p s f = true := hk
      rw [hk2] at e1
      obtain ⟨⟨g1, g1'⟩, ⟨g2, g2'⟩, ⟨g3, g3'⟩, ⟨g4, g4'⟩, g5⟩ := est_step h3 hk (by omega)
      simp only at g1 g1' g2 g2' g3 g3' g4 g4'
      have w1 := wrap_ok (x := n * s) (by omega)
      have w2 := wrap_ok (x := p * f) (by omega)
      have w3 := wrap_ok (x := p * f * d) (by omega)
      have w4 := wrap_ok (x := n * s + p * f * d) (by omega)
      have w5 := wrap_ok (x := d * s) (by omega)
      have e2 := fraction_spec (n * s + p * f * d) (d * s) (by omega) (by omega) (by omega) (by omega)
      unfold drawnM at e1
      unfold lowV fracV at e2
      clear h3 g1 g1' g2 g2' g3 g3' g4 g4'
      repeat' first
        | exact True.intro
        | refine runQ_step (fun K hK => ?_)
        | refine runQ_end ?_
        | refine PW.sregN kt_28 [] (fun K hK => ?_)
        | simp only [push_cast, ↓reduceIte, Nat.reduceAdd, Nat.reduceSub, Nat.reduceMul, Nat.reduceEqDiff, Nat.reduceLT, Nat.reduceLeDiff, Int.reduceToNat, reduceCtorEq, Int.reduceEq, Int.reduceLT, Int.reduceLE, Int.reduceAdd, Int.reduceSub, Int.reduceMul, Int.reduceNeg, MV.top, kt_28, ti1, ti2, ti3, ti4, ti27, ti30, ti32, ti45, eqt27, eqt30, hge, hlt2, Int.toNat_natCast, List.length_map, whenV, w1, w2, w3, w4, w5]
        | refine And.intro ?_ ?_
        | (refine hK _ ?_; clear hK K)
        | (refine hK _ ?_ ?_ <;> clear hK K)
        | apply_assumption (exfalso := false) (symm := false) only [*]
        | refine calP_lent rfl rfl e1 rfl ?_
        | refine calP_lent rfl rfl e2 rfl ?_
        | refine PW.seq (fun K hK => ?_)
        | refine PW.ret ?_
        | refine PW.skip ?_
        | refine PW.exit ?_
        | refine PW.block ?_
        | refine PW.condT rfl ?_
        | refine PW.condF rfl ?_
        | (refine PW.condD rfl (fun hc => ?_) (fun hc => ?_) <;> first | (exfalso; omega) | skip)
        | (refine PW.condN rfl (fun hc => ?_) (fun hc => ?_) <;> first | (exfalso; omega) | skip)
        | refine PW.cond rfl (fun hc => ?_) (fun hc => ?_)
        | refine PW.regQ [] ?_
        | refine PW.sdrawG kt_28 sc_28 [] hmix (by kernel_rfl) (fun K hK => ?_)
        | refine PW.drawG sc_28 [] hmix (by kernel_rfl) (fun K hK => ?_)
        | refine PW.label ?_
        | omega
        | (split <;> first | contradiction | skip)
      exact ⟨(i + 1, estStep (n, d) (p, s, f), rest ++ [some [.sh (.int .i64 p), .sh (.int .i64 s), .sh (.int .i64 f)]]), by rw [wrap_nat (by omega)]; rfl, ⟨by omega, htk.symm, g5, h4⟩, by show ds.length - (i + 1) < ds.length - i; omega⟩
  · have hlt2 : ¬ (i : Int) < ds.length := by omega
    rw [List.drop_of_length_le (by omega)] at h4
    have h0 : efV ds = 0 := by rw [← h4]; rfl
    have hst : estV ds = (n, d) := by rw [h2, List.take_of_length_le (by omega)]; rfl
    have hN : estN ds = n := by unfold estN; rw [h0, hst]; rfl
    have hD : estD ds = d := by unfold estD; rw [h0, hst]; rfl
    rw [h0, hN, hD]
    repeat' first
      | exact True.intro
      | refine runQ_step (fun K hK => ?_)
      | refine runQ_end ?_
      | refine PW.sregN kt_28 [] (fun K hK => ?_)
      | simp only [push_cast, ↓reduceIte, Nat.reduceAdd, Nat.reduceSub, Nat.reduceMul, Nat.reduceEqDiff, Nat.reduceLT, Nat.reduceLeDiff, Int.reduceToNat, reduceCtorEq, Int.reduceEq, Int.reduceLT, Int.reduceLE, Int.reduceAdd, Int.reduceSub, Int.reduceMul, Int.reduceNeg, MV.top, kt_28, ti1, ti2, ti3, ti4, ti27, ti30, ti32, ti45, eqt27, eqt30, hlt2]
      | refine And.intro ?_ ?_
      | (refine hK _ ?_; clear hK K)
      | (refine hK _ ?_ ?_ <;> clear hK K)
      | apply_assumption (exfalso := false) (symm := false) only [*]
      | refine PW.seq (fun K hK => ?_)
      | refine PW.ret ?_
      | refine PW.skip ?_
      | refine PW.exit ?_
      | refine PW.block ?_
      | refine PW.condT rfl ?_
      | refine PW.condF rfl ?_
      | (refine PW.condD rfl (fun hc => ?_) (fun hc => ?_) <;> first | (exfalso; omega) | skip)
      | (refine PW.condN rfl (fun hc => ?_) (fun hc => ?_) <;> first | (exfalso; omega) | skip)
      | refine PW.cond rfl (fun hc => ?_) (fun hc => ?_)
      | refine PW.regQ [] ?_
      | refine PW.sdrawG kt_28 sc_28 [] hmix (by kernel_rfl) (fun K hK => ?_)
      | refine PW.drawG sc_28 [] hmix (by kernel_rfl) (fun K hK => ?_)
      | refine PW.label ?_
      | omega
      | (split <;> first | contradiction | skip)

/-- What is read later. -/
def kt_29 : List (Nat × List Nat) := [(0, [0, 2]), (1, [0, 2, 3]), (2, [0, 2, 3, 7, 8, 9]), (3, [0, 2, 3, 7, 8, 9, 10]), (4, [0, 2, 3, 5, 7, 8, 9]), (5, [0, 2, 3, 7, 8, 9]), (6, [0, 2, 3, 7, 8, 9]), (7, [2])]
theorem EstimateOf_spec (ds : List D3) (hl : ds.length ≤ 5) (hok : efV ds = 0) : Spec Try.prog 29 [d3s ds] [(none, fracV (estV ds).1 (estV ds).2)] := by
  have hnp := np_d3s ds
  unfold d3s fracV at *
  refine spec_of0 (nt := 35) (rs := [.cell 2 30]) Try.func29 rfl rfl rfl rfl (by simp) (by simp [np, npL]) (by intro x hx; simp only [List.mem_cons, List.not_mem_nil, or_false] at hx; subst hx; exact hnp) ?_
  clear hnp
  repeat' first
    | exact True.intro
    | refine runQ_step (fun K hK => ?_)
    | refine runQ_end ?_
    | refine PW.sregN kt_29 [] (fun K hK => ?_)
    | simp only [push_cast, ↓reduceIte, Nat.reduceAdd, Nat.reduceSub, Nat.reduceMul, Nat.reduceEqDiff, Nat.reduceLT, Nat.reduceLeDiff, Int.reduceToNat, reduceCtorEq, Int.reduceEq, Int.reduceLT, Int.reduceLE, Int.reduceAdd, Int.reduceSub, Int.reduceMul, Int.reduceNeg, MV.top, kt_29, ti1, ti2, ti3, ti27, ti30, ti45, eqt27, eqt30, List.length_map]
    | refine And.intro ?_ ?_
    | (refine hK _ ?_; clear hK K)
    | (refine hK _ ?_ ?_ <;> clear hK K)
    | apply_assumption (exfalso := false) (symm := false) only [*]
    | refine PW.seq (fun K hK => ?_)
    | refine PW.ret ?_
    | refine PW.skip ?_
    | refine PW.exit ?_
    | refine PW.block ?_
    | refine PW.condT rfl ?_
    | refine PW.condF rfl ?_
    | (refine PW.condD rfl (fun hc => ?_) (fun hc => ?_) <;> first | (exfalso; omega) | skip)
    | (refine PW.condN rfl (fun hc => ?_) (fun hc => ?_) <;> first | (exfalso; omega) | skip)
    | refine PW.cond rfl (fun hc => ?_) (fun hc => ?_)
    | refine PW.regQ [] ?_
    | refine PW.sdrawG kt_29 sc_29 [] hmix (by kernel_rfl) (fun K hK => ?_)
    | refine PW.drawG sc_29 [] hmix (by kernel_rfl) (fun K hK => ?_)
    | refine PW.label ?_
    | omega
    | (split <;> first | contradiction | skip)
  refine PW.loopN [2, 3, 7, 8, 9] (fun q : Nat × (Int × Int) × List (Option (List Ct)) => ⟨[(2, .sh (.ptr 0 0)), (3, .sh (.ptr 1 0)), (7, .sh (.list (ds.map d3c))), (8, .sh (.int .i64 ds.length)), (9, .sh (.int .i64 (q.1 : Int)))], some [.sh (.int .i64 0), .sh (.int .i64 0)] :: some [.sh (.int .i64 q.2.1.1), .sh (.int .i64 q.2.1.2)] :: q.2.2⟩)
    (fun q => q.1 ≤ ds.length ∧ q.2.1 = (ds.take q.1).foldl estStep (0, 1) ∧ EBd q.1 q.2.1 ∧ efV (ds.drop q.1) = 0) (fun q => ds.length - q.1) (0, (0, 1), []) ?_ ⟨Nat.zero_le _, rfl, ⟨by simp, by simp, by simp, by simp⟩, hok⟩ (fun q hq => ?_)
  · simp only [push_cast, ↓reduceIte, Nat.reduceAdd, Nat.reduceSub, Nat.reduceMul, Nat.reduceEqDiff, Nat.reduceLT, Nat.reduceLeDiff, Int.reduceToNat, reduceCtorEq, Int.reduceEq, Int.reduceLT, Int.reduceLE, Int.reduceAdd, Int.reduceSub, Int.reduceMul, Int.reduceNeg, MV.top, kt_29, ti1, ti2, ti3, ti27, ti30, ti45]
  obtain ⟨i, ⟨n, d⟩, rest⟩ := q
  obtain ⟨h1, h2, h3, h4⟩ := hq
  simp only at h1 h2 h3 h4 ⊢
  by_cases hlt : i < ds.length
  · have hge := d3_get hlt
    have hef := efV_drop hlt
    have hlt2 : (i : Int) < ds.length := by omega
    have htk : (ds.take (i + 1)).foldl estStep (0, 1) = estStep (n, d) ds[i] := by rw [List.take_succ_eq_append_getElem hlt, List.foldl_append, ← h2]; rfl
    rw [hef] at h4
    clear hef
    generalize ds[i] = dd at *
    obtain ⟨p, s, f⟩ := dd
    cases hk : d3ok (p, s, f) with
    | false => rw [hk, if_neg (by simp)] at h4; omega
    | true =>
      rw [hk, if_pos rfl] at h4
      obtain ⟨⟨g1, g1'⟩, ⟨g2, g2'⟩, ⟨g3, g3'⟩, ⟨g4, g4'⟩, g5⟩ := est_step h3 hk (by omega)
      simp only at g1 g1' g2 g2' g3 g3' g4 g4'
      have w1 := wrap_ok (x := n * s) (by omega)
      have w2 := wrap_ok (x := p * f) (by omega)
      have w3 := wrap_ok (x := p * f * d) (by omega)
      have w4 := wrap_ok (x := n * s + p * f * d) (by omega)
      have w5 := wrap_ok (x := d * s) (by omega)
      have e2 := Lowest_spec (n * s + p * f * d) (d * s) (by omega) (by omega) (by omega) (by omega)
      unfold lowV fracV at e2
      clear h3 g1 g1' g2 g2' g3 g3' g4 g4'
      repeat' first
        | exact True.intro
        | refine runQ_step (fun K hK => ?_)
        | refine runQ_end ?_
        | refine PW.sregN kt_29 [] (fun K hK => ?_)
        | simp only [push_cast, ↓reduceIte, Nat.reduceAdd, Nat.reduceSub, Nat.reduceMul, Nat.reduceEqDiff, Nat.reduceLT, Nat.reduceLeDiff, Int.reduceToNat, reduceCtorEq, Int.reduceEq, Int.reduceLT, Int.reduceLE, Int.reduceAdd, Int.reduceSub, Int.reduceMul, Int.reduceNeg, MV.top, kt_29, ti1, ti2, ti3, ti27, ti30, ti45, eqt27, eqt30, hge, hlt2, Int.toNat_natCast, List.length_map, w1, w2, w3, w4, w5]
        | refine And.intro ?_ ?_
        | (refine hK _ ?_; clear hK K)
        | (refine hK _ ?_ ?_ <;> clear hK K)
        | apply_assumption (exfalso := false) (symm := false) only [*]
        | refine calP_lent rfl rfl e2 rfl ?_
        | refine PW.seq (fun K hK => ?_)
        | refine PW.ret ?_
        | refine PW.skip ?_
        | refine PW.exit ?_
        | refine PW.block ?_
        | refine PW.condT rfl ?_
        | refine PW.condF rfl ?_
        | (refine PW.condD rfl (fun hc => ?_) (fun hc => ?_) <;> first | (exfalso; omega) | skip)
        | (refine PW.condN rfl (fun hc => ?_) (fun hc => ?_) <;> first | (exfalso; omega) | skip)
        | refine PW.cond rfl (fun hc => ?_) (fun hc => ?_)
        | refine PW.regQ [] ?_
        | refine PW.sdrawG kt_29 sc_29 [] hmix (by kernel_rfl) (fun K hK => ?_)
        | refine PW.drawG sc_29 [] hmix (by kernel_rfl) (fun K hK => ?_)
        | refine PW.label ?_
        | omega
        | (split <;> first | contradiction | skip)
      exact ⟨(i + 1, estStep (n, d) (p, s, f), rest ++ [some [.sh (.int .i64 p), .sh (.int .i64 s), .sh (.int .i64 f)]]), by rw [wrap_nat (by omega)]; rfl, ⟨by omega, htk.symm, g5, h4⟩, by show ds.length - (i + 1) < ds.length - i; omega⟩
  · have hlt2 : ¬ (i : Int) < ds.length := by omega
    have hst : estV ds = (n, d) := by rw [h2, List.take_of_length_le (by omega)]; rfl
    rw [hst]
    repeat' first
      | exact True.intro
      | refine runQ_step (fun K hK => ?_)
      | refine runQ_end ?_
      | refine PW.sregN kt_29 [] (fun K hK => ?_)
      | simp only [push_cast, ↓reduceIte, Nat.reduceAdd, Nat.reduceSub, Nat.reduceMul, Nat.reduceEqDiff, Nat.reduceLT, Nat.reduceLeDiff, Int.reduceToNat, reduceCtorEq, Int.reduceEq, Int.reduceLT, Int.reduceLE, Int.reduceAdd, Int.reduceSub, Int.reduceMul, Int.reduceNeg, MV.top, kt_29, ti1, ti2, ti3, ti27, ti30, ti45, eqt27, eqt30, hlt2]
      | refine And.intro ?_ ?_
      | (refine hK _ ?_; clear hK K)
      | (refine hK _ ?_ ?_ <;> clear hK K)
      | apply_assumption (exfalso := false) (symm := false) only [*]
      | refine PW.seq (fun K hK => ?_)
      | refine PW.ret ?_
      | refine PW.skip ?_
      | refine PW.exit ?_
      | refine PW.block ?_
      | refine PW.condT rfl ?_
      | refine PW.condF rfl ?_
      | (refine PW.condD rfl (fun hc => ?_) (fun hc => ?_) <;> first | (exfalso; omega) | skip)
      | (refine PW.condN rfl (fun hc => ?_) (fun hc => ?_) <;> first | (exfalso; omega) | skip)
      | refine PW.cond rfl (fun hc => ?_) (fun hc => ?_)
      | refine PW.regQ [] ?_
      | refine PW.sdrawG kt_29 sc_29 [] hmix (by kernel_rfl) (fun K hK => ?_)
      | refine PW.drawG sc_29 [] hmix (by kernel_rfl) (fun K hK => ?_)
      | refine PW.label ?_
      | omega
      | (split <;> first | contradiction | skip)
    all_goals rw [hst]
end Go.Pv

