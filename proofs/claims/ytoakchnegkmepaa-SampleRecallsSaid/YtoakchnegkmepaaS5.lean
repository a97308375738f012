/- Likely numbers, as the reference counts them. -/
import Derived.Test.YtoakchnegkmepaaS4
set_option linter.unusedSimpArgs false
set_option linter.unusedVariables false
set_option maxRecDepth 100000
namespace Go.Pv
open Go Go.Proofs

abbrev tB : Nat := 1000000000
theorem tB2 : 2 ≤ tB := by decide
def b1 (d : Nat) : List MV := [.int .i64 d]
def bg (v : Nat) : List (List MV) := (digs tB v).map b1
@[simp] theorem npL_b1 (x : Nat) : npL (b1 x) = true := rfl
@[simp] theorem npLL_b1 (xs : List Nat) : npLL (xs.map b1) = true := npLL_mapF npL_b1 xs
@[simp] theorem npLL_bg (v : Nat) : npLL (bg v) = true := npLL_b1 _
@[simp] theorem b1_len (d : Nat) : (b1 d).length = 1 := rfl
theorem rd_bg {α : Type} {v i : Nat} (h : i < (digs tB v).length) (K : List MV → Option α) : rd (bg v) (i : Int) K = K (b1 (v / tB ^ i % tB)) :=
  rd_nat (by rw [bg, List.getElem?_map, digs_get tB2, if_neg ((digs_len tB2 v i).1 h)]; rfl) K
theorem bg_len (v : Nat) : (bg v).length = (digs tB v).length := by simp [bg]
theorem bz {v i : Nat} (h : ¬ i < (digs tB v).length) : v / tB ^ i = 0 := by
  by_cases h2 : v / tB ^ i = 0
  · exact h2
  · exact absurd ((digs_len tB2 v i).2 h2) h
theorem modT (s : Nat) : ((s : Int)).tmod 1000000000 = ((s % tB : Nat) : Int) := rfl
theorem divT (s : Nat) : ((s : Int)).tdiv 1000000000 = ((s / tB : Nat) : Int) := rfl
theorem snocb (o : List Nat) (d : Nat) : o.map b1 ++ [[.int .i64 (d : Int)]] = (o ++ [d]).map b1 := by simp [b1]

/-! ### Sums -/
theorem bplus_J2 (fu n k1 : Nat) (v0 o : List (List MV)) (w i c : Nat) (hc : c < 4611686018427387904) :
    chaseref2_big_plus_J2 fu n k1 v0 (bg w) o c i = chaseref2_big_plus_J3 fu n k1 v0 (bg w) o ((c + w / tB ^ i % tB : Nat) : Int) i := by
  rw [chaseref2_big_plus_J2_eq]
  simp only [bg_len, cnd_decide]
  have hm : w / tB ^ i % tB < 1000000000 := Nat.mod_lt _ (by decide)
  by_cases h : i < (digs tB w).length
  · rw [if_pos (by omega), rd_bg h, gd_pos (b1_len _)]
    simp only [b1, cel_zero, dI_int]
    rw [← Int.natCast_add, i64n (by omega)]
  · rw [if_neg (by omega), bz h]; simp
theorem bplus_J1 (fu n k1 : Nat) (o : List (List MV)) (v w i c : Nat) (hc : c < 1000000) :
    chaseref2_big_plus_J1 fu n k1 (bg v) (bg w) o c i true = chaseref2_big_plus_J3 fu n k1 (bg v) (bg w) o ((c + v / tB ^ i % tB + w / tB ^ i % tB : Nat) : Int) i := by
  rw [chaseref2_big_plus_J1_eq, cnd_true]
  simp only [bg_len, cnd_decide]
  have hm : v / tB ^ i % tB < 1000000000 := Nat.mod_lt _ (by decide)
  rw [← bplus_J2 fu n k1 (bg v) o w i (c + v / tB ^ i % tB) (by omega)]
  by_cases h : i < (digs tB v).length
  · rw [if_pos (by omega), rd_bg h, gd_pos (b1_len _)]
    simp only [b1, cel_zero, dI_int]
    rw [← Int.natCast_add, i64n (by omega)]
  · rw [if_neg (by omega), bz h]; simp

theorem bplus_L1 (fu n v w : Nat) : ∀ (m : Nat) (o : List Nat) (c i k1 : Nat), c ≤ 1 → c + v / tB ^ i + w / tB ^ i < tB ^ m → m < k1 → i + m ≤ 100000 → o.length ≤ i →
    chaseref2_big_plus_L1 fu n k1 (bg v) (bg w) (o.map b1) c i = some ([(none, .list ((o ++ digs tB (c + v / tB ^ i + w / tB ^ i)).map b1))], [])
  | m, o, c, i, 0, hc, hb, hk, hm, hl => by omega
  | m, o, c, i, k1 + 1, hc, hb, hk, hm, hl => by
    rw [chaseref2_big_plus_L1_eq, cnd_decide]
    have hmx : mm2 true (((bg v).length : Nat) : Int) (((bg w).length : Nat) : Int) = ((max (digs tB v).length (digs tB w).length : Nat) : Int) := by
      unfold mm2; simp only [if_true, bg_len]; split <;> omega
    have hv := digs_len tB2 v i
    have hw := digs_len tB2 w i
    rw [hmx]
    generalize hV : v / tB ^ i = V at *
    generalize hW : w / tB ^ i = W at *
    by_cases hz : c + V + W = 0
    · rw [if_neg (by omega), chaseref2_big_plus_J1_eq, hz, digs_zero, List.append_nil]
      have e : decide ((0 : Int) < (c : Int)) = false := decide_eq_false (by omega)
      rw [e, cnd_false]
    · have e : (if (i : Int) < ((max (digs tB v).length (digs tB w).length : Nat) : Int) then chaseref2_big_plus_J1 fu n k1 (bg v) (bg w) (o.map b1) c i true else chaseref2_big_plus_J1 fu n k1 (bg v) (bg w) (o.map b1) c i (decide ((0 : Int) < (c : Int)))) = chaseref2_big_plus_J1 fu n k1 (bg v) (bg w) (o.map b1) c i true := by
        split
        · rfl
        · rw [decide_eq_true (show (0 : Int) < (c : Int) by omega)]
      have hm1 : V % tB < 1000000000 := Nat.mod_lt _ (by decide)
      have hm2 : W % tB < 1000000000 := Nat.mod_lt _ (by decide)
      rw [e, bplus_J1 fu n k1 _ v w i c (by omega), hV, hW, chaseref2_big_plus_J3_eq]
      generalize hs : c + V % tB + W % tB = s
      cases m with
      | zero => simp at hb; omega
      | succ m =>
        rw [gd_pos (by decide), gd_pos (by decide), modT, divT, snocb, gL_pos (by simp; omega), i64n (by simp only [tB]; omega), i64s (by omega)]
        have e1 : c + V + W = s % tB + tB * (s / tB + V / tB + W / tB) := by simp only [tB] at *; omega
        have hb2 : s / tB + V / tB + W / tB < tB ^ m := by
          have h4 : tB * (s / tB + V / tB + W / tB) < tB * tB ^ m := by
            rw [Nat.mul_comm tB (tB ^ m), ← Nat.pow_succ]
            exact Nat.lt_of_le_of_lt (by rw [e1]; exact Nat.le_add_left _ _) hb
          exact Nat.lt_of_mul_lt_mul_left h4
        have h := bplus_L1 fu n v w m (o ++ [s % tB]) (s / tB) (i + 1) k1 (by simp only [tB]; omega) (by rw [div_pow_succ, div_pow_succ, hV, hW]; exact hb2) (by omega) (by omega) (by simp; omega)
        rw [div_pow_succ, div_pow_succ, hV, hW] at h
        rw [h, digs_pos tB2 hz]
        have e2 : (c + V + W) % tB = s % tB := by rw [e1, Nat.add_mul_mod_self_left, Nat.mod_mod]
        have e3 : (c + V + W) / tB = s / tB + V / tB + W / tB := by
          conv => lhs; rw [e1, Nat.add_mul_div_left _ _ (by decide), Nat.div_eq_of_lt (Nat.mod_lt _ (by decide)), Nat.zero_add]
        rw [e2, e3, List.append_assoc]; rfl
def tM : Nat := tB ^ 100
theorem bplus_ok (fu n v w : Nat) (hfu : 1000000 ≤ fu) (h : v + w < tM) :
    ev fu (n + 1) 116 [.list (bg v), .list (bg w)] [] = some ([(none, .list (bg (v + w)))], []) := by
  have h2 := bplus_L1 fu n v w 100 [] 0 0 fu (by omega) (by simpa [tM] using h) (by omega) (by omega) (by simp)
  simp only [List.map_nil, Nat.pow_zero, Nat.div_one, Nat.zero_add, List.nil_append] at h2
  rw [chaseref2_big_plus_eq]
  exact (congrArg (npO 0) h2).trans (npO_0 (by simp))

/-! ### Products -/
theorem btimes_L2 (fu n : Nat) : ∀ (m : Nat) (o : List Nat) (c k1 : Nat), c < tB ^ m → m < k1 → o.length + m ≤ 100000 → c ≤ 9223372036854775807 →
    chaseref2_big_times_L2 fu n k1 (o.map b1) c = some ([(none, .list ((o ++ digs tB c).map b1))], [])
  | m, o, c, 0, hc, hk, hl, h6 => by omega
  | m, o, c, k1 + 1, hc, hk, hl, h6 => by
    rw [chaseref2_big_times_L2_eq, cnd_decide]
    by_cases hz : c = 0
    · rw [if_neg (by omega), hz, digs_zero, List.append_nil]
    · cases m with
      | zero => simp at hc; omega
      | succ m =>
        rw [if_pos (by omega), gd_pos (by decide), gd_pos (by decide), modT, divT, snocb, gL_pos (by simp; omega), i64n (by simp only [tB]; omega)]
        rw [btimes_L2 fu n m (o ++ [c % tB]) (c / tB) k1 ((Nat.div_lt_iff_lt_mul (by decide)).2 (by rwa [← Nat.pow_succ])) (by omega) (by simp; omega) (by simp only [tB]; omega)]
        rw [digs_pos tB2 hz, List.append_assoc]; rfl
theorem btimes_L1 (fu n v x : Nat) (hfu : 1000000 ≤ fu) (hx0 : 0 < x) (hx : x ≤ 1000000) : ∀ (m : Nat) (o : List Nat) (c i k1 : Nat), c ≤ x → i + m = (digs tB v).length → m < k1 → i + m ≤ 10000 → o.length ≤ i →
    chaseref2_big_times_L1 fu n k1 x (o.map b1) c (bg v) ((digs tB v).length : Nat) i = some ([(none, .list ((o ++ digs tB (c + v / tB ^ i * x)).map b1))], [])
  | m, o, c, i, 0, hc, hi, hk, hm, hl => by omega
  | 0, o, c, i, k1 + 1, hc, hi, hk, hm, hl => by
    rw [chaseref2_big_times_L1_eq, cnd_decide, if_neg (by omega), bz (by omega), Nat.zero_mul, Nat.add_zero]
    exact btimes_L2 fu n 10 o c fu (by simp only [tB]; omega) (by omega) (by omega) (by omega)
  | m + 1, o, c, i, k1 + 1, hc, hi, hk, hm, hl => by
    have h : i < (digs tB v).length := by omega
    have hV := (digs_len tB2 v i).1 h
    rw [chaseref2_big_times_L1_eq, cnd_decide, if_pos (by omega), rd_bg h, gd_pos (b1_len _)]
    simp only [b1, cel_zero, dI_int]
    have hm1 : v / tB ^ i % tB < tB := Nat.mod_lt _ (by decide)
    have hnx := div_pow_succ v tB i
    generalize v / tB ^ i = V at *
    have hp : V % tB * x ≤ (tB - 1) * x := Nat.mul_le_mul_right x (by omega)
    have hp2 : (tB - 1) * x = 999999999 * x := rfl
    rw [← Int.natCast_mul, i64n (by omega), ← Int.natCast_add, i64n (by omega)]
    generalize hs : c + V % tB * x = s
    rw [gd_pos (by decide), gd_pos (by decide), modT, divT, snocb, gL_pos (by simp; omega), i64n (by simp only [tB]; omega), i64s (by omega)]
    have h2 := btimes_L1 fu n v x hfu hx0 hx m (o ++ [s % tB]) (s / tB) (i + 1) k1 (by
      have : s ≤ tB * x := by simp only [tB] at *; omega
      exact Nat.div_le_of_le_mul this) (by omega) (by omega) (by omega) (by simp; omega)
    have e0 : v / tB ^ (i + 1) = V / tB := hnx
    rw [e0] at h2
    rw [h2]
    have e1 : c + V * x = s % tB + tB * (s / tB + V / tB * x) := by
      have a1 := Nat.mod_add_div s tB
      have a2 : V * x = V % tB * x + tB * (V / tB * x) := by
        conv => lhs; rw [← Nat.mod_add_div V tB, Nat.add_mul, Nat.mul_assoc]
      rw [Nat.mul_add, a2]; omega
    have hz : c + V * x ≠ 0 := by
      have : V * x ≠ 0 := Nat.mul_ne_zero hV (by omega)
      omega
    rw [digs_pos tB2 hz]
    have e2 : (c + V * x) % tB = s % tB := by rw [e1, Nat.add_mul_mod_self_left, Nat.mod_mod]
    have e3 : (c + V * x) / tB = s / tB + V / tB * x := by
      conv => lhs; rw [e1, Nat.add_mul_div_left _ _ (by decide), Nat.div_eq_of_lt (Nat.mod_lt _ (by decide)), Nat.zero_add]
    rw [e2, e3, List.append_assoc]; rfl
theorem btimes_ok (fu n v x : Nat) (hfu : 1000000 ≤ fu) (hx0 : 0 < x) (hx : x ≤ 1000000) (h : v < tM) :
    ev fu (n + 1) 117 [.list (bg v), .int .i64 x] [] = some ([(none, .list (bg (v * x)))], []) := by
  have hl : (digs tB v).length ≤ 100 := digs_len_le tB2 h
  have h2 := btimes_L1 fu n v x hfu hx0 hx (digs tB v).length [] 0 0 fu (by omega) (by omega) (by omega) (by omega) (by simp)
  simp only [List.map_nil, Nat.pow_zero, Nat.div_one, Nat.zero_add, List.nil_append] at h2
  rw [chaseref2_big_times_eq, bg_len]
  exact (congrArg (npO 0) h2).trans (npO_0 (by simp))

/-! ### Comparing -/
theorem sign_ok (fu n : Nat) (x : Int) : ev fu (n + 1) 126 [.int .i64 x] [] = some ([(none, .int .i64 (if x < 0 then -1 else if 0 < x then 1 else 0))], []) := by
  rw [chaseref2_sign_eq]; simp only [cnd_decide]
  split
  · exact npO_0 (by simp)
  · split <;> exact npO_0 (by simp)
theorem div_lt_div {a b c : Nat} (h : a / c < b / c) : a < b := by
  by_cases h2 : a < b
  · exact h2
  · exact absurd (Nat.div_le_div_right (c := c) (show b ≤ a by omega)) (by omega)
theorem bcmp_L1 (fu n v w : Nat) : ∀ (i k1 : Nat), i < k1 → i ≤ 100000 → v / tB ^ i = w / tB ^ i →
    chaseref2_big_cmp_L1 fu (n + 1) k1 (bg v) (bg w) ((i : Int) - 1) = some ([(none, .int .i64 (cmpI v w))], [])
  | 0, k1 + 1, hk, hi, he => by
    simp only [Nat.pow_zero, Nat.div_one] at he
    rw [chaseref2_big_cmp_L1_eq, cnd_decide, if_neg (by omega), he]
    simp [cmpI]
  | i + 1, k1 + 1, hk, hi, he => by
    rw [div_pow_succ, div_pow_succ] at he
    have e0 : ((i + 1 : Nat) : Int) - 1 = (i : Int) := by omega
    have hx : v / tB ^ i % tB < 1000000000 := Nat.mod_lt _ (by decide)
    have hy : w / tB ^ i % tB < 1000000000 := Nat.mod_lt _ (by decide)
    have s1 : chaseref2_big_cmp_L1 fu (n + 1) (k1 + 1) (bg v) (bg w) ((i : Int)) = chaseref2_big_cmp_J1 fu (n + 1) k1 (bg v) (bg w) i ((v / tB ^ i % tB : Nat) : Int) 0 := by
      rw [chaseref2_big_cmp_L1_eq, cnd_decide, if_pos (by omega), cnd_decide, bg_len]
      by_cases h : i < (digs tB v).length
      · rw [if_pos (by omega), rd_bg h, gd_pos (b1_len _)]
        simp only [b1, cel_zero, dI_int]
      · rw [if_neg (by omega), bz h]; rfl
    have s2 : chaseref2_big_cmp_J1 fu (n + 1) k1 (bg v) (bg w) i ((v / tB ^ i % tB : Nat) : Int) 0 = chaseref2_big_cmp_J2 fu (n + 1) k1 (bg v) (bg w) i ((v / tB ^ i % tB : Nat) : Int) ((w / tB ^ i % tB : Nat) : Int) := by
      rw [chaseref2_big_cmp_J1_eq, cnd_decide, bg_len]
      by_cases h : i < (digs tB w).length
      · rw [if_pos (by omega), rd_bg h, gd_pos (b1_len _)]
        simp only [b1, cel_zero, dI_int]
      · rw [if_neg (by omega), bz h]; rfl
    rw [e0, s1, s2, chaseref2_big_cmp_J2_eq, cnd_not, cnd_decide, sign_ok, rI_some]
    have a1 := Nat.div_add_mod (v / tB ^ i) tB
    have a2 := Nat.div_add_mod (w / tB ^ i) tB
    have l1 : v / tB ^ i < w / tB ^ i → v < w := div_lt_div
    have l2 : w / tB ^ i < v / tB ^ i → w < v := div_lt_div
    have ih := bcmp_L1 fu n v w i k1 (by omega) (by omega)
    rw [he] at a1
    generalize v / tB ^ i = V at *
    generalize w / tB ^ i = W at *
    generalize tB * (W / tB) = Z at *
    generalize V % tB = x at *
    generalize W % tB = y at *
    by_cases h : x = y
    · rw [if_pos (by omega), w64 (by omega) (by omega)]
      exact ih (by omega)
    · rw [if_neg (by omega), w64 (by omega) (by omega)]
      unfold cmpI
      by_cases h3 : x < y
      · have := l1 (by omega)
        rw [if_pos (by omega), if_pos this]
      · have := l2 (by omega)
        rw [if_neg (by omega), if_pos (by omega), if_neg (by omega), if_pos this]
theorem bcmp_ok (fu n v w : Nat) (hfu : 1000000 ≤ fu) (hv : v < tM) (hw : w < tM) :
    ev fu (n + 2) 118 [.list (bg v), .list (bg w)] [] = some ([(none, .int .i64 (cmpI v w))], []) := by
  have l1 : (digs tB v).length ≤ 100 := digs_len_le tB2 hv
  have l2 : (digs tB w).length ≤ 100 := digs_len_le tB2 hw
  have hmx : mm2 true (((bg v).length : Nat) : Int) (((bg w).length : Nat) : Int) = ((max (digs tB v).length (digs tB w).length : Nat) : Int) := by
    unfold mm2; simp only [if_true, bg_len]; split <;> omega
  have h := bcmp_L1 fu n v w (max (digs tB v).length (digs tB w).length) fu (by omega) (by omega) (by rw [bz (by omega), bz (by omega)])
  rw [chaseref2_big_cmp_eq, hmx, w64 (by omega) (by omega)]
  exact (congrArg (npO 0) h).trans (npO_0 (by simp))


/-! ### Rows of draws -/
def bE (v : Nat) : List MV := [.list (bg v)]
@[simp] theorem bE_len (v : Nat) : (bE v).length = 1 := rfl
def fR (m : Nat) (f : Nat → Nat) : List (List MV) := (List.range m).map fun j => bE (f j)
theorem fR_len (m : Nat) (f : Nat → Nat) : (fR m f).length = m := by simp [fR]
theorem fR_get {m : Nat} {f : Nat → Nat} {i : Nat} (h : i < m) : (fR m f)[i]? = some (bE (f i)) := by
  simp [fR, List.getElem?_range h]
theorem npLL_fR (m : Nat) (f : Nat → Nat) : npLL (fR m f) = true := npLL_mapF (fun x => by simp [bE]) _
theorem fR_set (m : Nat) (f g : Nat → Nat) (i x : Nat) (h : ∀ j, j < m → g j = if j = i then x else f j) : (fR m f).set i (bE x) = fR m g := by
  apply List.ext_getElem?
  intro j
  rw [List.getElem?_set]
  by_cases hj : j < m
  · rw [fR_get hj, fR_get hj, h j hj]
    by_cases e : i = j
    · subst e; rw [if_pos rfl, if_pos rfl, if_pos (by rw [fR_len]; exact hj)]
    · rw [if_neg e, if_neg (by omega)]
  · rw [List.getElem?_eq_none (l := fR m g) (by rw [fR_len]; omega)]
    split
    · rw [if_neg (by rw [fR_len]; omega)]
    · rw [List.getElem?_eq_none (by rw [fR_len]; omega)]
theorem fac_chs (n : Nat) : ∀ k, fac k * chs n k ≤ n ^ k
  | 0 => by simp [fac]
  | k + 1 => by
    have h := chs_next n k
    have ih := fac_chs n k
    have e : fac (k + 1) * chs n (k + 1) = (n - k) * (fac k * chs n k) := by
      rw [fac, Nat.mul_comm (k + 1), Nat.mul_assoc, h]; ac_rfl
    rw [e, Nat.pow_succ, Nat.mul_comm (n ^ k)]
    exact Nat.mul_le_mul (by omega) ih
theorem tM_pow {k : Nat} (h : k < 100) : tB ^ k < tM := Nat.pow_lt_pow_right (by decide) h
theorem fac_tM {p k x : Nat} (hp : p ≤ 2000) (hk : k ≤ 60) (hx : x ≤ fac k * chs p k) : x * 1000000000 < tM ∧ x * 1000000000 * 2 < tM := by
  have h1 := fac_chs p k
  have h2 : p ^ k ≤ tB ^ k := Nat.pow_le_pow_left (by simp only [tB]; omega) k
  have h3 : tB ^ k ≤ tB ^ 60 := Nat.pow_le_pow_right (by decide) hk
  have h4 : x * 1000000000 * 2 ≤ tB ^ 60 * 1000000000 * 1000000000 := Nat.mul_le_mul (Nat.mul_le_mul_right _ (by omega)) (by omega)
  have h5 : tB ^ 60 * 1000000000 * 1000000000 = tB ^ 62 := rfl
  have := tM_pow (k := 62) (by decide)
  omega

def dW (r e k i : Nat) : Nat := fac k * way r e k i
/-- The next row, when i of the last one are through. -/
def dN (r e k i j : Nat) : Nat := if j < i then dW r e (k + 1) j else if j = i then (if j = 0 then 0 else dW r e k (j - 1) * (r - (j - 1))) else 0
theorem dW_le (r e k i : Nat) (h : i ≤ k) : dW r e k i ≤ fac k * chs (r + e) k := Nat.mul_le_mul_left _ (way_le r e k i h)
theorem dN_step (r e k i : Nat) (h : i ≤ k) : dN r e k i i + dW r e k i * (e - (k - i)) = dW r e (k + 1) i := by
  unfold dN dW
  rw [if_neg (by omega), if_pos rfl]
  cases i with
  | zero => rw [if_pos rfl, Nat.zero_add, Nat.sub_zero, way_draw0]
  | succ i =>
    have := way_draw r e k i (by omega)
    rw [if_pos h] at this
    rw [if_neg (by omega), this, Nat.add_sub_cancel]
theorem dN_last (r e k j : Nat) (h : j < k + 2) : dN r e k (k + 1) j = dW r e (k + 1) j := by
  unfold dN
  by_cases h1 : j < k + 1
  · rw [if_pos h1]
  · have h2 : j = k + 1 := by omega
    subst h2
    rw [if_neg (by omega), if_pos rfl, if_neg (by omega), Nat.add_sub_cancel]
    unfold dW
    rw [way_draw r e k k (by omega), if_neg (by omega), Nat.add_zero]

theorem row_L2 (fu n k1 r e p k nn : Nat) (v7 : List (List MV)) (hfu : 1000000 ≤ fu) (hp : r + e = p) (hp2 : p ≤ 2000) (hk : k < 60) : ∀ (m i k2 : Nat), i + m = k + 1 → m < k2 →
    chaseref2_row_L2 fu (n + 1) k1 k2 p r v7 k (fR (k + 2) (dN r e k i)) nn k (fR (k + 1) (dW r e k)) ((k + 1 : Nat) : Int) i
      = chaseref2_row_L1 fu (n + 1) k1 p r (fR (k + 2) (dW r e (k + 1))) nn ((k + 1 : Nat) : Int)
  | m, i, 0, hm, h2 => by omega
  | 0, i, k2 + 1, hm, h2 => by
    have e1 : i = k + 1 := by omega
    subst e1
    rw [chaseref2_row_L2_eq, cnd_decide, if_neg (by omega), i64s (by omega)]
    congr 1
    unfold fR
    apply List.map_congr_left
    intro j hj
    rw [dN_last r e k j (by simpa using hj)]
  | m + 1, i, k2 + 1, hm, h2 => by
    have hi : i ≤ k := by omega
    have hb := fac_tM hp2 (show k ≤ 60 by omega) (x := dW r e k i) (by rw [← hp]; exact dW_le r e k i hi)
    have hb2 := fac_tM hp2 (show k + 1 ≤ 60 by omega) (x := dW r e (k + 1) i) (by rw [← hp]; exact dW_le r e (k + 1) i (by omega))
    have hst := dN_step r e k i hi
    -- the row after the first half
    have hA : chaseref2_row_L2 fu (n + 1) k1 (k2 + 1) p r v7 k (fR (k + 2) (dN r e k i)) nn k (fR (k + 1) (dW r e k)) ((k + 1 : Nat) : Int) i
        = chaseref2_row_J1 fu (n + 1) k1 k2 p r v7 k (fR (k + 2) (fun j => if j = i + 1 then dW r e k i * (r - i) else dN r e k i j)) i (bg (dW r e k i)) nn k (fR (k + 1) (dW r e k)) ((k + 1 : Nat) : Int) i := by
      rw [chaseref2_row_L2_eq, cnd_decide, if_pos (by omega), rd_nat (fR_get (show i < k + 1 by omega)), gd_pos (bE_len _)]
      simp only [bE, cel_zero, dL_list, cnd_decide]
      by_cases hr : i < r
      · have e1 : IntKind.i64.wrap ((r : Int) - (i : Int)) = ((r - i : Nat) : Int) := by rw [w64 (by omega) (by omega)]; omega
        have hz : dN r e k i (i + 1) = 0 := by unfold dN; rw [if_neg (by omega), if_neg (by omega)]
        rw [if_pos (by omega), i64s (by omega), ixG_n (by rw [fR_len]; omega), Int.toNat_natCast]
        simp only [rdN_get (fR_get (show i + 1 < k + 2 by omega)), bE, cel_zero, dL_list, eqM_self', e1, hz]
        have ht := Nat.le_trans (Nat.mul_le_mul_left (dW r e k i) (show r - i ≤ 1000000000 by omega)) (Nat.le_refl _)
        rw [npG_pos (by simp), btimes_ok fu n _ (r - i) hfu (by omega) (by omega) (by omega), rL_some]
        rw [npG_pos (by simp), bplus_ok fu n 0 _ hfu (by omega), rL_some, Nat.zero_add, ixG_n (by rw [fR_len]; omega)]
        have e3 : ovr [.list (bg 0)] 0 [.list (bg (dW r e k i * (r - i)))] = bE (dW r e k i * (r - i)) := rfl
        rw [e3, fR_set (k + 2) (dN r e k i) _ (i + 1) (dW r e k i * (r - i)) (fun j _ => rfl)]
      · have hz : dN r e k i (i + 1) = dW r e k i * (r - i) := by
          unfold dN; rw [if_neg (by omega), if_neg (by omega), show r - i = 0 by omega, Nat.mul_zero]
        rw [if_neg (by omega)]
        congr 2
        funext j
        by_cases hj : j = i + 1
        · subst hj; rw [if_pos rfl, hz]
        · rw [if_neg hj]
    have hB : chaseref2_row_J1 fu (n + 1) k1 k2 p r v7 k (fR (k + 2) (fun j => if j = i + 1 then dW r e k i * (r - i) else dN r e k i j)) i (bg (dW r e k i)) nn k (fR (k + 1) (dW r e k)) ((k + 1 : Nat) : Int) i
        = chaseref2_row_J2 fu (n + 1) k1 k2 p r v7 k (fR (k + 2) (dN r e k (i + 1))) nn k (fR (k + 1) (dW r e k)) ((k + 1 : Nat) : Int) i := by
      have e1 : IntKind.i64.wrap ((k : Int) - (i : Int)) = ((k - i : Nat) : Int) := by rw [w64 (by omega) (by omega)]; omega
      have e2 : IntKind.i64.wrap ((p : Int) - (r : Int)) = ((e : Nat) : Int) := by rw [w64 (by omega) (by omega)]; omega
      have hz : (if i = i + 1 then dW r e k i * (r - i) else dN r e k i i) = dN r e k i i := if_neg (by omega)
      have hg : ∀ j, dN r e k (i + 1) j = if j = i then dW r e (k + 1) i else if j = i + 1 then dW r e k i * (r - i) else dN r e k i j := by
        intro j
        by_cases h1 : j = i
        · subst h1; rw [if_pos rfl]; unfold dN; rw [if_pos (by omega)]
        · rw [if_neg h1]
          by_cases h2 : j = i + 1
          · subst h2; rw [if_pos rfl]; unfold dN; rw [if_neg (by omega), if_pos rfl, if_neg (by omega), Nat.add_sub_cancel]
          · rw [if_neg h2]; unfold dN
            by_cases h3 : j < i
            · rw [if_pos (by omega), if_pos h3]
            · rw [if_neg (by omega), if_neg h3, if_neg h2, if_neg h1]
      rw [chaseref2_row_J1_eq, cnd_decide, e1, e2]
      by_cases he : k - i < e
      · have e4 : IntKind.i64.wrap ((e : Int) - ((k - i : Nat) : Int)) = ((e - (k - i) : Nat) : Int) := by rw [w64 (by omega) (by omega)]; omega
        rw [if_pos (by omega), ixG_n (by rw [fR_len]; omega), Int.toNat_natCast]
        simp only [rdN_get (fR_get (show i < k + 2 by omega)), bE, cel_zero, dL_list, eqM_self', hz, e4]
        have ht := Nat.mul_le_mul_left (dW r e k i) (show e - (k - i) ≤ 1000000000 by omega)
        rw [npG_pos (by simp), btimes_ok fu n _ (e - (k - i)) hfu (by omega) (by omega) (by omega), rL_some]
        rw [npG_pos (by simp), bplus_ok fu n _ _ hfu (by omega), rL_some, hst, ixG_n (by rw [fR_len]; omega)]
        have e3 : ovr [.list (bg (dN r e k i i))] 0 [.list (bg (dW r e (k + 1) i))] = bE (dW r e (k + 1) i) := rfl
        rw [e3, fR_set (k + 2) _ (dN r e k (i + 1)) i (dW r e (k + 1) i) (fun j _ => hg j)]
      · rw [if_neg (by omega)]
        congr 2
        funext j
        rw [hg j]
        by_cases h1 : j = i
        · subst h1; rw [if_pos rfl, hz, ← hst, show e - (k - j) = 0 by omega, Nat.mul_zero, Nat.add_zero]
        · rw [if_neg h1]
    rw [hA, hB, chaseref2_row_J2_eq, i64s (by omega)]
    exact row_L2 fu n k1 r e p k nn v7 hfu hp hp2 hk m (i + 1) k2 (by omega) (by omega)

theorem row_L1 (fu n r e p nn : Nat) (hfu : 1000000 ≤ fu) (hp : r + e = p) (hp2 : p ≤ 2000) (hn : nn ≤ 60) : ∀ (m k k1 : Nat), k + m = nn → m < k1 →
    chaseref2_row_L1 fu (n + 1) k1 p r (fR (k + 1) (dW r e k)) nn k = some ([(none, .list (fR (nn + 1) (dW r e nn)))], [])
  | m, k, 0, hm, h2 => by omega
  | 0, k, k1 + 1, hm, h2 => by
    have e1 : k = nn := by omega
    subst e1
    rw [chaseref2_row_L1_eq, cnd_decide, if_neg (by omega)]
  | m + 1, k, k1 + 1, hm, h2 => by
    have e1 : IntKind.i64.wrap ((k : Int) + 2) = ((k + 2 : Nat) : Int) := by rw [w64 (by omega) (by omega)]; omega
    have e2 : List.replicate (k + 2) ([.list ([] : List (List MV))] : List MV) = fR (k + 2) (dN r e k 0) := by
      apply List.ext_getElem?
      intro j
      by_cases hj : j < k + 2
      · rw [fR_get hj, List.getElem?_replicate, if_pos hj]
        have : dN r e k 0 j = 0 := by
          unfold dN; rw [if_neg (by omega)]
          split <;> rfl
        rw [this]; simp [bE, bg, digs_zero]
      · rw [List.getElem?_eq_none (by simp; omega), List.getElem?_eq_none (by rw [fR_len]; omega)]
    rw [chaseref2_row_L1_eq, cnd_decide, if_pos (by omega), e1, gd_pos (by omega), Int.toNat_natCast, e2, fR_len]
    have h := row_L2 fu n k1 r e p k nn (fR (k + 1) (dW r e k)) hfu hp hp2 (by omega) (k + 1) 0 fu (by omega) (by omega)
    refine Eq.trans h ?_
    exact row_L1 fu n r e p nn hfu hp hp2 hn m (k + 1) k1 (by omega) (by omega)
theorem row_ok (fu n r p nn : Nat) (hfu : 1000000 ≤ fu) (hr : r ≤ p) (hp2 : p ≤ 2000) (hn : nn ≤ 60) :
    ev fu (n + 2) 115 [.int .i64 p, .int .i64 r, .int .i64 nn] [] = some ([(none, .list (fR (nn + 1) (dW r (p - r) nn)))], []) := by
  have h := row_L1 fu n r (p - r) p nn hfu (by omega) hp2 hn nn 0 fu (by omega) (by omega)
  have e1 : fR (0 + 1) (dW r (p - r) 0) = [[.list [[.int .i64 1]]]] := by
    have : bg 1 = [[.int .i64 1]] := by rw [bg, digs_pos tB2 (by omega), show 1 / tB = 0 by decide, digs_zero]; rfl
    simp [fR, bE, dW, fac, way, this]
  rw [e1] at h
  rw [chaseref2_row_eq]
  exact (congrArg (npO 0) h).trans (npO_0 (by simp [npLL_fR]))

/-! ### Likely -/
def clip (a b i : Nat) : Nat := min i (b + 1) - a
theorem rlikely_L1 (fu n r e s p num den up a b : Nat) (hfu : 1000000 ≤ fu) (hp : r + e = p) (hp2 : p ≤ 2000) (hs : s ≤ 60) (hb : b ≤ s) (ha : a ≤ b) (hden : den ≤ 1000) (hden0 : 0 < den) (hup0 : 0 < up) (hup : num + up = den) : ∀ (m i k1 : Nat), i + m = s + 1 → m < k1 →
    chaseref2_likely_L1 fu (n + 2) k1 a b (lvl num den) (bg (fac s * sumF r e s a (clip a b i))) (bg (fac s * sumW r e s i)) (fR (s + 1) (dW r e s)) ((s + 1 : Nat) : Int) i = some ([(none, .bool (likeS r e s a (b + 1 - a) den up))], [])
  | m, i, 0, hm, h2 => by omega
  | 0, i, k1 + 1, hm, h2 => by
    have e0 : i = s + 1 := by omega
    subst e0
    have ec : clip a b (s + 1) = b + 1 - a := by unfold clip; omega
    have hS : sumF r e s a (b + 1 - a) ≤ chs p s := by
      have h1 := sumF_eq r e s a (b + 1 - a)
      have h2 := @sumW_le r e s (a + (b + 1 - a)) (by omega)
      rw [hp] at h2; omega
    have e1 : IntKind.i64.wrap ((den : Int) - (num : Int)) = ((up : Nat) : Int) := by rw [w64 (by omega) (by omega)]; omega
    rw [chaseref2_likely_L1_eq, cnd_decide, if_neg (by omega), ec, sumW_all, hp]
    simp only [lvl, cel_zero, cel_1, dI_int, eqM_self', e1]
    have t1 := fac_tM hp2 hs (x := fac s * sumF r e s a (b + 1 - a)) (Nat.mul_le_mul_left _ hS)
    have t2 := fac_tM hp2 hs (x := fac s * chs p s) (Nat.le_refl _)
    generalize hX : fac s * sumF r e s a (b + 1 - a) = X at *
    generalize hY : fac s * chs p s = Y at *
    have m1 := Nat.mul_le_mul_left X (show den ≤ 1000000000 by omega)
    have m2 := Nat.mul_le_mul_left Y (show up ≤ 1000000000 by omega)
    rw [npG_pos (by simp), btimes_ok fu (n + 1) _ den hfu hden0 (by omega) (by omega), rL_some, npG_pos (by simp), btimes_ok fu (n + 1) _ up hfu hup0 (by omega) (by omega), rL_some, npG_pos (by simp), bcmp_ok fu n _ _ hfu (by omega) (by omega), rI_some]
    have e4 : decide ((0 : Int) ≤ cmpI (X * den) (Y * up)) = likeS r e s a (b + 1 - a) den up := by
      unfold likeS cmpI; rw [hp]
      apply decide_eq_decide.2
      have f1 : X * den = fac s * (sumF r e s a (b + 1 - a) * den) := by rw [← hX, Nat.mul_assoc]
      have f2 : Y * up = fac s * (chs p s * up) := by rw [← hY, Nat.mul_assoc]
      have f3 : X * den < Y * up ↔ sumF r e s a (b + 1 - a) * den < chs p s * up := by
        rw [f1, f2]; exact Nat.mul_lt_mul_left (fac_pos s)
      split
      · constructor <;> omega
      · split <;> constructor <;> omega
    rw [e4]
  | m + 1, i, k1 + 1, hm, h2 => by
    have hi : i ≤ s := by omega
    have hS : sumF r e s a (clip a b (i + 1)) ≤ chs p s := by
      have h1 := sumF_eq r e s a (clip a b (i + 1))
      have h2 := @sumW_le r e s (a + clip a b (i + 1)) (by unfold clip; omega)
      rw [hp] at h2; omega
    have hT : sumW r e s (i + 1) ≤ chs p s := by
      have h2 := @sumW_le r e s (i + 1) (by omega)
      rwa [hp] at h2
    have t1 := fac_tM hp2 hs (x := fac s * sumF r e s a (clip a b (i + 1))) (Nat.mul_le_mul_left _ hS)
    have t2 := fac_tM hp2 hs (x := fac s * sumW r e s (i + 1)) (Nat.mul_le_mul_left _ hT)
    have eT : fac s * sumW r e s i + dW r e s i = fac s * sumW r e s (i + 1) := by rw [sumW, Nat.mul_add]; rfl
    rw [chaseref2_likely_L1_eq, cnd_decide, if_pos (by omega), rd_nat (fR_get (show i < s + 1 by omega)), gd_pos (bE_len _)]
    simp only [bE, cel_zero, dL_list]
    rw [npG_pos (by simp), bplus_ok fu (n + 1) _ _ hfu (by omega), rL_some, eT, in_ok, rB_some, i64s (by omega)]
    have ih := rlikely_L1 fu n r e s p num den up a b hfu hp hp2 hs hb ha hden hden0 hup0 hup m (i + 1) k1 (by omega) (by omega)
    by_cases hin : a ≤ i ∧ i ≤ b
    · have e5 : inB (i : Int) (a : Int) (b : Int) = true := by unfold inB; exact decide_eq_true (by omega)
      have e6 : clip a b (i + 1) = clip a b i + 1 := by unfold clip; omega
      have e7 : a + clip a b i = i := by unfold clip; omega
      have eS : fac s * sumF r e s a (clip a b i) + dW r e s i = fac s * sumF r e s a (clip a b (i + 1)) := by rw [e6, sumF, e7, Nat.mul_add]; rfl
      rw [e5, cnd_true, npG_pos (by simp), bplus_ok fu (n + 1) _ _ hfu (by omega), rL_some, eS]
      exact ih
    · have e5 : inB (i : Int) (a : Int) (b : Int) = false := by unfold inB; exact decide_eq_false (by omega)
      have e6 : clip a b (i + 1) = clip a b i := by unfold clip; omega
      rw [e5, cnd_false, ← e6]
      exact ih
theorem rlikely_ok (fu n r p s num den up a b : Nat) (fo : Int) (hfu : 1000000 ≤ fu) (hr : r ≤ p) (hp2 : p ≤ 2000) (hs : s ≤ 60) (hb : b ≤ s) (ha : a ≤ b) (hden : den ≤ 1000) (hden0 : 0 < den) (hup0 : 0 < up) (hup : num + up = den) :
    ev fu (n + 3) 78 [.agg (drw p s fo), .int .i64 r, .int .i64 a, .int .i64 b, .agg (lvl num den)] [] = some ([(none, .bool (likeS r (p - r) s a (b + 1 - a) den up))], []) := by
  have h := rlikely_L1 fu n r (p - r) s p num den up a b hfu (by omega) hp2 hs hb ha hden hden0 hup0 hup (s + 1) 0 fu (by omega) (by omega)
  have ec : clip a b 0 = 0 := by unfold clip; omega
  rw [ec] at h
  simp only [sumF, sumW, Nat.mul_zero, bg, digs_zero, List.map_nil] at h
  rw [chaseref2_likely_eq]
  simp only [drw, cel_zero, cel_1, dI_int]
  rw [row_ok fu n r p s hfu hr hp2 hs, rL_some, fR_len]
  exact (congrArg (npO 0) h).trans (npO_0 (by simp))

end Go.Pv

