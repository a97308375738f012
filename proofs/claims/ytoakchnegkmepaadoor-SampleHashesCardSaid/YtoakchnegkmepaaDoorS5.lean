/- Likely numbers, as the reference counts them. -/
import Derived.Test.YtoakchnegkmepaaDoorS4
set_option linter.unusedSimpArgs false
set_option linter.unusedVariables false
set_option maxRecDepth 100000
namespace Go.Pv
open Go Go.Proofs

abbrev tB : Nat := 1000000000
theorem tB2 : 2 ≤ tB := by decide
def b1 (d : Nat) : List MV := [.int .i64 d]
def bg (v : Nat) : List (List MV) := (digs tB v).map b1
@[simp] theorem npL_b1 (x : Nat) : npL (b1 x) = true := rfl
@[simp] theorem npLL_b1 (xs : List Nat) : npLL (xs.map b1) = true := npLL_mapF npL_b1 xs
@[simp] theorem npLL_bg (v : Nat) : npLL (bg v) = true := npLL_b1 _
@[simp] theorem b1_len (d : Nat) : (b1 d).length = 1 := rfl
theorem rd_bg {α : Type} {v i : Nat} (h : i < (digs tB v).length) (K : List MV → Option α) : rd (bg v) (i : Int) K = K (b1 (v / tB ^ i % tB)) :=
  rd_nat (by rw [bg, List.getElem?_map, digs_get tB2, if_neg ((digs_len tB2 v i).1 h)]; rfl) K
theorem bg_len (v : Nat) : (bg v).length = (digs tB v).length := by simp [bg]
theorem bz {v i : Nat} (h : ¬ i < (digs tB v).length) : v / tB ^ i = 0 := by
  by_cases h2 : v / tB ^ i = 0
  · exact h2
  · exact absurd ((digs_len tB2 v i).2 h2) h
theorem modT (s : Nat) : ((s : Int)).tmod 1000000000 = ((s % tB : Nat) : Int) := rfl
theorem divT (s : Nat) : ((s : Int)).tdiv 1000000000 = ((s / tB : Nat) : Int) := rfl
theorem snocb (o : List Nat) (d : Nat) : o.map b1 ++ [[.int .i64 (d : Int)]] = (o ++ [d]).map b1 := by simp [b1]

/-! ### Sums -/
def tM : Nat := tB ^ 100
/-! ### Products -/
/-! ### Comparing -/
theorem div_lt_div {a b c : Nat} (h : a / c < b / c) : a < b := by
  by_cases h2 : a < b
  · exact h2
  · exact absurd (Nat.div_le_div_right (c := c) (show b ≤ a by omega)) (by omega)
/-! ### Rows of draws -/
def bE (v : Nat) : List MV := [.list (bg v)]
@[simp] theorem bE_len (v : Nat) : (bE v).length = 1 := rfl
def fR (m : Nat) (f : Nat → Nat) : List (List MV) := (List.range m).map fun j => bE (f j)
theorem fR_len (m : Nat) (f : Nat → Nat) : (fR m f).length = m := by simp [fR]
theorem fR_get {m : Nat} {f : Nat → Nat} {i : Nat} (h : i < m) : (fR m f)[i]? = some (bE (f i)) := by
  simp [fR, List.getElem?_range h]
theorem npLL_fR (m : Nat) (f : Nat → Nat) : npLL (fR m f) = true := npLL_mapF (fun x => by simp [bE]) _
theorem fR_set (m : Nat) (f g : Nat → Nat) (i x : Nat) (h : ∀ j, j < m → g j = if j = i then x else f j) : (fR m f).set i (bE x) = fR m g := by
  apply List.ext_getElem?
  intro j
  rw [List.getElem?_set]
  by_cases hj : j < m
  · rw [fR_get hj, fR_get hj, h j hj]
    by_cases e : i = j
    · subst e; rw [if_pos rfl, if_pos rfl, if_pos (by rw [fR_len]; exact hj)]
    · rw [if_neg e, if_neg (by omega)]
  · rw [List.getElem?_eq_none (l := fR m g) (by rw [fR_len]; omega)]
    split
    · rw [if_neg (by rw [fR_len]; omega)]
    · rw [List.getElem?_eq_none (by rw [fR_len]; omega)]
theorem fac_chs (n : Nat) : ∀ k, fac k * chs n k ≤ n ^ k
  | 0 => by simp [fac]
  | k + 1 => by
    have h := chs_next n k
    have ih := fac_chs n k
    have e : fac (k + 1) * chs n (k + 1) = (n - k) * (fac k * chs n k) := by
      rw [fac, Nat.mul_comm (k + 1), Nat.mul_assoc, h]; ac_rfl
    rw [e, Nat.pow_succ, Nat.mul_comm (n ^ k)]
    exact Nat.mul_le_mul (by omega) ih
theorem tM_pow {k : Nat} (h : k < 100) : tB ^ k < tM := Nat.pow_lt_pow_right (by decide) h
theorem fac_tM {p k x : Nat} (hp : p ≤ 2000) (hk : k ≤ 60) (hx : x ≤ fac k * chs p k) : x * 1000000000 < tM ∧ x * 1000000000 * 2 < tM := by
  have h1 := fac_chs p k
  have h2 : p ^ k ≤ tB ^ k := Nat.pow_le_pow_left (by simp only [tB]; omega) k
  have h3 : tB ^ k ≤ tB ^ 60 := Nat.pow_le_pow_right (by decide) hk
  have h4 : x * 1000000000 * 2 ≤ tB ^ 60 * 1000000000 * 1000000000 := Nat.mul_le_mul (Nat.mul_le_mul_right _ (by omega)) (by omega)
  have h5 : tB ^ 60 * 1000000000 * 1000000000 = tB ^ 62 := rfl
  have := tM_pow (k := 62) (by decide)
  omega

def dW (r e k i : Nat) : Nat := fac k * way r e k i
/-- The next row, when i of the last one are through. -/
def dN (r e k i j : Nat) : Nat := if j < i then dW r e (k + 1) j else if j = i then (if j = 0 then 0 else dW r e k (j - 1) * (r - (j - 1))) else 0
theorem dW_le (r e k i : Nat) (h : i ≤ k) : dW r e k i ≤ fac k * chs (r + e) k := Nat.mul_le_mul_left _ (way_le r e k i h)
theorem dN_step (r e k i : Nat) (h : i ≤ k) : dN r e k i i + dW r e k i * (e - (k - i)) = dW r e (k + 1) i := by
  unfold dN dW
  rw [if_neg (by omega), if_pos rfl]
  cases i with
  | zero => rw [if_pos rfl, Nat.zero_add, Nat.sub_zero, way_draw0]
  | succ i =>
    have := way_draw r e k i (by omega)
    rw [if_pos h] at this
    rw [if_neg (by omega), this, Nat.add_sub_cancel]
theorem dN_last (r e k j : Nat) (h : j < k + 2) : dN r e k (k + 1) j = dW r e (k + 1) j := by
  unfold dN
  by_cases h1 : j < k + 1
  · rw [if_pos h1]
  · have h2 : j = k + 1 := by omega
    subst h2
    rw [if_neg (by omega), if_pos rfl, if_neg (by omega), Nat.add_sub_cancel]
    unfold dW
    rw [way_draw r e k k (by omega), if_neg (by omega), Nat.add_zero]

/-! ### Likely -/
def clip (a b i : Nat) : Nat := min i (b + 1) - a
end Go.Pv
