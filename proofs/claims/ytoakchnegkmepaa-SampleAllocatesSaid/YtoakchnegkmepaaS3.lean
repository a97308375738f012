/- Likely numbers, as the program counts them. -/
import Derived.Test.YtoakchnegkmepaaS2
set_option linter.unusedSimpArgs false
set_option linter.unusedVariables false
set_option maxRecDepth 100000
namespace Go.Pv
open Go Go.Proofs

@[simp] theorem cel_1 {α : Type} (a b : MV) (r : List MV) (K : MV → Option α) : cel (a :: b :: r) 1 K = K b := rfl
@[simp] theorem cel_2 {α : Type} (a b c : MV) (r : List MV) (K : MV → Option α) : cel (a :: b :: c :: r) 2 K = K c := rfl

/-! ### Comparing -/
def cmpI (a b : Nat) : Int := if a < b then -1 else if b < a then 1 else 0
theorem cmp_top {P x y a b : Nat} (ha : a < P) (hb : b < P) (h : x < y) : a + P * x < b + P * y := by
  have := Nat.mul_le_mul_left P (show x + 1 ≤ y from h)
  rw [Nat.mul_add] at this; omega

theorem compare_L1 (fu n : Nat) (xs ys : List Nat) (hx : Dg xs) (hy : Dg ys) (l1 : xs.length ≤ 100) (l2 : ys.length = xs.length) : ∀ (i k1 : Nat), i ≤ xs.length → i < k1 →
    sample_natural_compare_L1 fu n k1 (xs.map u1) (ys.map u1) ((i : Int) - 1) = some ([.int .i64 (cmpI (valD nB (xs.take i)) (valD nB (ys.take i)))], [])
  | 0, k1 + 1, hi, hk => by
    rw [sample_natural_compare_L1_eq, cnd_decide, if_neg (by omega)]; rfl
  | i + 1, k1 + 1, hi, hk => by
    have hi1 : i < xs.length := by omega
    have hi2 : i < ys.length := by omega
    have g1 : xs[i]? = some xs[i] := List.getElem?_eq_getElem hi1
    have g2 : ys[i]? = some ys[i] := List.getElem?_eq_getElem hi2
    have e0 : ((i + 1 : Nat) : Int) - 1 = (i : Int) := by omega
    have e1 : valD nB (xs.take (i + 1)) = valD nB (xs.take i) + nB ^ i * xs[i] := by
      rw [List.take_add_one, g1, valD_app, List.length_take, Nat.min_eq_left (by omega)]; simp [valD]
    have e2 : valD nB (ys.take (i + 1)) = valD nB (ys.take i) + nB ^ i * ys[i] := by
      rw [List.take_add_one, g2, valD_app, List.length_take, Nat.min_eq_left (by omega)]; simp [valD]
    have b1 : valD nB (xs.take i) < nB ^ i := by
      have := valD_lt (b := nB) (xs.take i) (fun d h => hx d (List.mem_of_mem_take h))
      rwa [List.length_take, Nat.min_eq_left (by omega)] at this
    have b2 : valD nB (ys.take i) < nB ^ i := by
      have := valD_lt (b := nB) (ys.take i) (fun d h => hy d (List.mem_of_mem_take h))
      rwa [List.length_take, Nat.min_eq_left (by omega)] at this
    rw [e0, sample_natural_compare_L1_eq, cnd_decide, if_pos (by omega)]
    simp only [rd_u1 g1, rd_u1 g2, gd_pos (u1_len _)]
    simp only [u1, cel_zero, dI_int, eqM_self', cnd_decide]
    rw [e1, e2]
    by_cases h1 : xs[i] < ys[i]
    · have := cmp_top b1 b2 h1
      rw [if_pos (by omega), cmpI, if_pos this]
    · rw [if_neg (by omega)]
      by_cases h2 : ys[i] < xs[i]
      · have := cmp_top b2 b1 h2
        rw [if_pos (by omega), cmpI, if_neg (by omega), if_pos this]
      · have h3 : xs[i] = ys[i] := by omega
        rw [if_neg (by omega), w64 (by omega) (by omega)]
        have ih := compare_L1 fu n xs ys hx hy l1 l2 i k1 (by omega) (by omega)
        refine ih.trans ?_
        rw [h3]
        unfold cmpI
        simp only [Nat.add_lt_add_iff_right]

theorem compare_ok (fu n v w : Nat) (hfu : 1000000 ≤ fu) (hv : v < nM) (hw : w < nM) :
    ev fu (n + 1) 111 [.list (nat v), .list (nat w)] [] = some ([.int .i64 (cmpI v w)], []) := by
  have l1 := nat_len_le hv
  have l2 := nat_len_le hw
  have low : ∀ {a b : Nat}, (digs nB a).length < (digs nB b).length → a < b := by
    intro a b h
    have h1 := digs_lt nB2 a
    have h2 := (digs_len nB2 b (digs nB a).length).1 h
    have h3 : nB ^ (digs nB a).length ≤ b := by
      by_cases h4 : nB ^ (digs nB a).length ≤ b
      · exact h4
      · exact absurd (Nat.div_eq_of_lt (by omega)) h2
    omega
  rw [sample_natural_compare_eq]
  simp only [nat, List.length_map, cnd_not, cnd_decide]
  by_cases h : (digs nB v).length = (digs nB w).length
  · rw [if_pos (by omega)]
    have e := compare_L1 fu n (digs nB v) (digs nB w) (Dg_digs v) (Dg_digs w) l1 h.symm (digs nB v).length fu (Nat.le_refl _) (by omega)
    rw [List.take_length, h, List.take_length, valD_digs nB2, valD_digs nB2, ← h] at e
    rw [w64 (by omega) (by omega)]
    exact e
  · rw [if_neg (by omega)]
    by_cases h2 : (digs nB v).length < (digs nB w).length
    · rw [if_pos (by omega), cmpI, if_pos (low h2)]
    · have h3 := low (show (digs nB w).length < (digs nB v).length by omega)
      rw [if_neg (by omega), cmpI, if_neg (by omega), if_pos h3]

/-! ### Ways -/
def wE (n i : Nat) : List MV := [.list (nat (chs n i))]
@[simp] theorem wE_len (n i : Nat) : (wE n i).length = 1 := rfl
def wR (n k : Nat) : List (List MV) := (List.range (k + 1)).map (wE n)
theorem wR_len (n k : Nat) : (wR n k).length = k + 1 := by simp [wR]
theorem wR_get {n k i : Nat} (h : i ≤ k) : (wR n k)[i]? = some (wE n i) := by
  simp [wR, List.getElem?_range (show i < k + 1 by omega)]
theorem wR_succ (n k : Nat) : wR n (k + 1) = wR n k ++ [wE n (k + 1)] := by
  simp [wR, List.range_succ]
theorem nM_pow {k : Nat} (h : k < 100) : nB ^ k < nM := Nat.pow_lt_pow_right (by decide) h
theorem chs_nM {n i : Nat} (hn : n ≤ 2000) (hi : i ≤ 60) : chs n i * 4294967296 * 4294967296 < nM := by
  have h1 := chs_le n i
  have h2 : (n + 1) ^ i ≤ nB ^ i := Nat.pow_le_pow_left (by simp only [nB]; omega) i
  have h3 : nB ^ i ≤ nB ^ 60 := Nat.pow_le_pow_right (by decide) hi
  have h4 : chs n i * 4294967296 * 4294967296 ≤ nB ^ 60 * 4294967296 * 4294967296 := Nat.mul_le_mul_right _ (Nat.mul_le_mul_right _ (by omega))
  have h5 : nB ^ 60 * 4294967296 * 4294967296 = nB ^ 62 := rfl
  have := nM_pow (k := 62) (by decide)
  omega

theorem ways_L1 (fu n N k : Nat) (hfu : 1000000 ≤ fu) (hN : N ≤ 2000) (hk : k ≤ 60) : ∀ (m i k1 : Nat), i + m = k → m < k1 →
    sample_ways_L1 fu (n + 3) k1 N k (wR N i) ((i + 1 : Nat) : Int) = some ([.ref 0], [some (.row false 1 (wR N k) [])])
  | 0, i, k1 + 1, hi, h1 => by
    have : i = k := by omega
    subst this
    rw [sample_ways_L1_eq, cnd_decide, if_neg (by omega)]
  | m + 1, i, k1 + 1, hi, h1 => by
    have hb := chs_nM hN (show i ≤ 60 by omega)
    have e1 : mm2 true (0 : Int) (IntKind.i64.wrap (IntKind.i64.wrap ((N : Int) - ((i + 1 : Nat) : Int)) + 1)) = ((N - i : Nat) : Int) := by
      rw [show IntKind.i64.wrap ((N : Int) - ((i + 1 : Nat) : Int)) = (N : Int) - ((i + 1 : Nat) : Int) from w64 (by omega) (by omega), w64 (by omega) (by omega)]
      unfold mm2; simp only [if_true]; split <;> omega
    rw [sample_ways_L1_eq, cnd_decide, if_pos (by omega), i64p (by omega), ixG_n (by rw [wR_len]; omega), Int.toNat_natCast]
    simp only [rdN_get (wR_get (Nat.le_refl i)), wE, cel_zero, dL_list, eqM_self', e1]
    rw [new_ok fu n (N - i) hfu (by omega), rL_some]
    rw [times_ok fu (n + 1) _ _ hfu (by omega) (Nat.lt_of_le_of_lt (show N - i ≤ nB ^ 1 by simp only [nB]; omega) (nM_pow (by decide))), rL_some, u32mn, Nat.mod_eq_of_lt (by omega)]
    rw [over_ok fu (n + 1) (chs N i * (N - i)) (i + 1) hfu (Nat.lt_of_le_of_lt (Nat.le_trans (Nat.mul_le_mul_left _ (show N - i ≤ 4294967296 by omega)) (Nat.le_mul_of_pos_right _ (by decide))) hb) (by omega) (by omega), rL_some, chs_div]
    rw [gL_pos (by rw [wR_len]; simp; omega), i64s (by omega)]
    have e2 : wR N i ++ [[.list (nat (chs N (i + 1)))]] = wR N (i + 1) := (wR_succ N i).symm
    rw [e2]
    exact ways_L1 fu n N k hfu hN hk m (i + 1) k1 (by omega) (by omega)

theorem ways_ok (fu n N k : Nat) (hfu : 1000000 ≤ fu) (hN : N ≤ 2000) (hk : k ≤ 60) :
    ev fu (n + 4) 107 [.int .i64 N, .int .i64 k] [] = some ([.ref 0], [some (.row false 1 (wR N k) [])]) := by
  have h1 := new_ok fu n 1 hfu (by decide)
  have e1 : ((1 : Nat) : Int) = 1 := rfl
  rw [e1] at h1
  rw [sample_ways_eq, h1, rL_some]
  have h := ways_L1 fu n N k hfu hN hk k 0 fu (by omega) (by omega)
  have e : wR N 0 = [[.list (nat 1)]] := by simp [wR, wE]
  rw [e] at h
  exact h


/-! ### Likely -/
abbrev lvl (p q : Int) : List MV := [.int .i64 p, .int .i64 q]
abbrev drw (p s f : Int) : List MV := [.int .i64 p, .int .i64 s, .int .i64 f]
def likeS (r e s a k den up : Nat) : Bool := decide (chs (r + e) s * up ≤ sumF r e s a k * den)

theorem likely_L1 (fu n r e s p : Nat) (fo : Int) (num den up : Nat) (a b : Nat) (hfu : 1000000 ≤ fu) (hp : r + e = p) (hp2 : p ≤ 2000) (hs : s ≤ 60) (hb : b ≤ s) (hden : den ≤ 1000000) (hup : num + up = den) :
    ∀ (m k k1 : Nat), a + k + m = b + 1 → m < k1 →
    sample_likely_L1 fu (n + 4) k1 b p s fo num den (wR r s) (wR e s) (nat (sumF r e s a k)) ((a + k : Nat) : Int) = some ([.bool (likeS r e s a (b + 1 - a) den up)], [])
  | 0, k, k1 + 1, hm, hk => by
    have hC := chs_nM hp2 hs
    have hS : sumF r e s a k ≤ chs p s := by
      have h1 := sumF_eq r e s a k
      have h2 := @sumW_le r e s (a + k) (by omega)
      rw [hp] at h2; omega
    rw [sample_likely_L1_eq, cnd_decide, if_neg (by omega)]
    simp only [drw, lvl, cel_zero, cel_1, cel_2, dI_int, eqM_self']
    rw [ways_ok fu n p s hfu hp2 hs, rO_some]
    rw [ixG_n (by rw [wR_len]; omega), ixG_n (by rw [wR_len]; omega)]
    simp only [Int.toNat_natCast, rdN_get (wR_get (Nat.le_refl s)), eqM_self']
    simp only [wE, cel_zero, dL_list, eqM_self']
    have e1 : IntKind.i64.wrap ((den : Int) - (num : Int)) = ((up : Nat) : Int) := by rw [w64 (by omega) (by omega)]; omega
    have b1 : sumF r e s a k < nM := by omega
    have b2 : chs p s < nM := by omega
    have b3 : den < nM := Nat.lt_of_le_of_lt (show den ≤ nB ^ 1 by simp only [nB]; omega) (nM_pow (by decide))
    have b4 : up < nM := by omega
    have b5 : sumF r e s a k * den < nM := Nat.lt_of_le_of_lt (Nat.le_trans (Nat.mul_le_mul hS (show den ≤ 4294967296 by omega)) (Nat.le_mul_of_pos_right _ (by decide))) hC
    have b6 : chs p s * up < nM := Nat.lt_of_le_of_lt (Nat.le_trans (Nat.mul_le_mul_left _ (show up ≤ 4294967296 by omega)) (Nat.le_mul_of_pos_right _ (by decide))) hC
    rw [new_ok fu (n + 1) den hfu (by omega), rL_some, times_ok fu (n + 2) _ _ hfu b1 b3, rL_some, e1, new_ok fu (n + 1) up hfu (by omega), rL_some, times_ok fu (n + 2) _ _ hfu b2 b4, rL_some, compare_ok fu (n + 3) _ _ hfu b5 b6, rI_some]
    have e2 : a + k = b + 1 := by omega
    have e3 : k = b + 1 - a := by omega
    have e4 : decide ((0 : Int) ≤ cmpI (sumF r e s a k * den) (chs p s * up)) = likeS r e s a (b + 1 - a) den up := by
      unfold likeS cmpI; rw [hp, ← e3]
      apply decide_eq_decide.2
      split
      · constructor <;> omega
      · split <;> constructor <;> omega
    rw [e4]
  | m + 1, k, k1 + 1, hm, hk => by
    have hC := chs_nM hp2 hs
    have hS : sumF r e s a (k + 1) ≤ chs p s := by
      have h1 := sumF_eq r e s a (k + 1)
      have h2 := @sumW_le r e s (a + (k + 1)) (by omega)
      rw [hp] at h2; omega
    have hW : sumF r e s a (k + 1) = sumF r e s a k + chs r (a + k) * chs e (s - (a + k)) := by
      rw [sumF, way, if_pos (by omega)]
    have c1 := chs_nM (n := r) (i := a + k) (by omega) (by omega)
    have c2 := chs_nM (n := e) (i := s - (a + k)) (by omega) (by omega)
    rw [sample_likely_L1_eq, cnd_decide, if_pos (by omega)]
    have e1 : IntKind.i64.wrap ((s : Int) - ((a + k : Nat) : Int)) = ((s - (a + k) : Nat) : Int) := by rw [w64 (by omega) (by omega)]; omega
    simp only [drw, lvl, cel_zero, cel_1, cel_2, dI_int, eqM_self', e1, Int.toNat_natCast, ixG_n (show a + k < (wR r s).length by rw [wR_len]; omega), ixG_n (show s - (a + k) < (wR e s).length by rw [wR_len]; omega), rdN_get (wR_get (show a + k ≤ s by omega)), rdN_get (wR_get (show s - (a + k) ≤ s by omega))]
    simp only [wE, cel_zero, dL_list, eqM_self']
    rw [times_ok fu (n + 2) _ _ hfu (by omega) (by omega), rL_some, plus_ok fu (n + 2) _ _ hfu (by omega) (by omega), rL_some, ← hW, i64s (by omega)]
    exact likely_L1 fu n r e s p fo num den up a b hfu hp hp2 hs hb hden hup m (k + 1) k1 (by omega) (by omega)

theorem likely_ok (fu n r p s : Nat) (fo : Int) (num den up a b : Nat) (hfu : 1000000 ≤ fu) (hr : r ≤ p) (hp2 : p ≤ 2000) (hs : s ≤ 60) (hb : b ≤ s) (ha : a ≤ b) (hden : den ≤ 1000000) (hup : num + up = den) :
    ev fu (n + 5) 72 [.agg (drw p s fo), .int .i64 r, .int .i64 a, .int .i64 b, .agg (lvl num den)] [] = some ([.bool (likeS r (p - r) s a (b + 1 - a) den up)], []) := by
  rw [sample_likely_eq]
  have e1 : IntKind.i64.wrap ((p : Int) - (r : Int)) = ((p - r : Nat) : Int) := by rw [w64 (by omega) (by omega)]; omega
  simp only [drw, cel_zero, cel_1, cel_2, dI_int, eqM_self', e1]
  rw [ways_ok fu n r s hfu (by omega) hs, rO_some, ways_ok fu n (p - r) s hfu (by omega) hs, rO_some]
  have h := likely_L1 fu n r (p - r) s p fo num den up a b hfu (by omega) hp2 hs hb hden hup (b + 1 - a) 0 fu (by omega) (by omega)
  simp only [sumF, nat, digs_zero, Nat.add_zero, List.map_nil] at h
  exact h

end Go.Pv
