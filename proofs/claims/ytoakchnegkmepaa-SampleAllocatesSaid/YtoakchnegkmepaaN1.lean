/- Numbers: digits, ways to choose, and sums of them; halving. Plain Lean. -/
import Derived.Test.YtoakchnegkmepaaHU
set_option linter.unusedSimpArgs false
set_option linter.unusedVariables false
namespace Go.Pv

/-! ### Digits -/
/-- The digits of a number, the least first, without zeros at the end. -/
def digs (b : Nat) (v : Nat) : List Nat := if h : v = 0 ∨ b < 2 then [] else (v % b) :: digs b (v / b)
termination_by v
decreasing_by exact Nat.div_lt_self (by omega) (by omega)

theorem digs_zero (b : Nat) : digs b 0 = [] := by rw [digs]; simp
theorem digs_pos {b v : Nat} (hb : 2 ≤ b) (hv : v ≠ 0) : digs b v = (v % b) :: digs b (v / b) := by
  conv => lhs; rw [digs]
  rw [dif_neg (by omega)]
theorem div_pow_succ (v b i : Nat) : v / b ^ (i + 1) = v / b ^ i / b := by rw [Nat.pow_succ, Nat.div_div_eq_div_mul]
theorem div_pow_succ' (v b i : Nat) : v / b ^ (i + 1) = v / b / b ^ i := by rw [Nat.pow_succ, Nat.mul_comm, Nat.div_div_eq_div_mul]
theorem digs_get {b : Nat} (hb : 2 ≤ b) : ∀ (i v : Nat), (digs b v)[i]? = if v / b ^ i = 0 then none else some (v / b ^ i % b)
  | 0, v => by
    by_cases hv : v = 0
    · subst hv; rw [digs_zero]; simp
    · rw [digs_pos hb hv]; simp [hv]
  | i + 1, v => by
    by_cases hv : v = 0
    · subst hv; rw [digs_zero]; simp
    · rw [digs_pos hb hv, List.getElem?_cons_succ, digs_get hb i, div_pow_succ']
theorem digs_len {b : Nat} (hb : 2 ≤ b) (v i : Nat) : i < (digs b v).length ↔ v / b ^ i ≠ 0 := by
  have h := digs_get hb i v
  by_cases hl : i < (digs b v).length
  · rw [List.getElem?_eq_getElem hl] at h
    by_cases hz : v / b ^ i = 0
    · rw [if_pos hz] at h; cases h
    · exact ⟨fun _ => hz, fun _ => hl⟩
  · rw [List.getElem?_eq_none (by omega)] at h
    by_cases hz : v / b ^ i = 0
    · exact ⟨fun x => absurd x hl, fun x => absurd hz x⟩
    · rw [if_neg hz] at h; cases h
theorem digs_len_le {b : Nat} (hb : 2 ≤ b) {v k : Nat} (h : v < b ^ k) : (digs b v).length ≤ k := by
  by_cases h2 : k < (digs b v).length
  · have := (digs_len hb v k).1 h2
    rw [Nat.div_eq_of_lt h] at this; omega
  · omega
theorem digs_lt {b : Nat} (hb : 2 ≤ b) (v : Nat) : v < b ^ (digs b v).length := by
  have h := (digs_len hb v (digs b v).length).2
  by_cases h2 : v / b ^ (digs b v).length = 0
  · have hp : 0 < b ^ (digs b v).length := Nat.pow_pos (by omega)
    exact (Nat.div_eq_zero_iff_lt hp).1 h2
  · exact absurd (h h2) (Nat.lt_irrefl _)

def valD (b : Nat) : List Nat → Nat
  | [] => 0
  | d :: r => d + b * valD b r
theorem valD_app (b : Nat) : ∀ (x y : List Nat), valD b (x ++ y) = valD b x + b ^ x.length * valD b y
  | [], y => by simp [valD]
  | d :: r, y => by
    simp only [List.cons_append, valD, List.length_cons, valD_app b r y]
    rw [Nat.mul_add, Nat.pow_succ, Nat.mul_comm (b ^ r.length) b, Nat.mul_assoc]; omega
theorem valD_rep (b k : Nat) : valD b (List.replicate k 0) = 0 := by
  induction k with
  | zero => rfl
  | succ k ih => simp [List.replicate_succ, valD, ih]
theorem valD_digs {b : Nat} (hb : 2 ≤ b) (v : Nat) : valD b (digs b v) = v := by
  induction v using Nat.strongRecOn with
  | _ v ih =>
    by_cases hv : v = 0
    · subst hv; rw [digs_zero]; rfl
    · rw [digs_pos hb hv, valD, ih (v / b) (Nat.div_lt_self (by omega) (by omega))]; exact Nat.mod_add_div v b
theorem valD_lt {b : Nat} : ∀ (x : List Nat), (∀ d ∈ x, d < b) → valD b x < b ^ x.length
  | [], _ => by simp [valD]
  | d :: r, h => by
    have h1 := valD_lt r fun e he => h e (List.mem_cons_of_mem _ he)
    have h2 : d < b := h d (List.mem_cons_self ..)
    simp only [valD, List.length_cons, Nat.pow_succ]
    calc d + b * valD b r < b + b * valD b r := by omega
      _ = b * (valD b r + 1) := by rw [Nat.mul_add]; omega
      _ ≤ b * b ^ r.length := Nat.mul_le_mul_left _ h1
      _ = b ^ r.length * b := Nat.mul_comm ..

theorem digs_mem {b : Nat} (hb : 2 ≤ b) (v : Nat) : ∀ d ∈ digs b v, d < b := by
  intro d hd
  obtain ⟨i, hi, rfl⟩ := List.mem_iff_getElem.1 hd
  have h := digs_get hb i v
  rw [List.getElem?_eq_getElem hi] at h
  by_cases hz : v / b ^ i = 0
  · rw [if_pos hz] at h; cases h
  · rw [if_neg hz] at h; rw [Option.some.inj h]; exact Nat.mod_lt _ (by omega)
/-- Right digits without a zero at the end are the digits. -/
theorem digs_valD {b : Nat} (hb : 2 ≤ b) : ∀ (x : List Nat), (∀ d ∈ x, d < b) → x.getLast? ≠ some 0 → digs b (valD b x) = x
  | [], _, _ => by simp [valD, digs_zero]
  | [d], h, h2 => by
    have hd : d < b := h d (by simp)
    have h0 : d ≠ 0 := fun e => h2 (by simp [e])
    simp only [valD, Nat.mul_zero, Nat.add_zero]
    rw [digs_pos hb h0, Nat.mod_eq_of_lt hd, Nat.div_eq_of_lt hd, digs_zero]
  | d :: e :: r, h, h2 => by
    have hd : d < b := h d (by simp)
    have ih := digs_valD hb (e :: r) (fun x hx => h x (List.mem_cons_of_mem _ hx)) (by simpa using h2)
    have hv : valD b (e :: r) ≠ 0 := by
      intro hz; rw [hz, digs_zero] at ih; cases ih
    have h3 : valD b (d :: e :: r) ≠ 0 := by
      have : b * valD b (e :: r) ≠ 0 := Nat.mul_ne_zero (by omega) hv
      simp only [valD] at *; omega
    have h4 : valD b (d :: e :: r) = d + b * valD b (e :: r) := rfl
    rw [digs_pos hb h3, h4, Nat.add_mul_mod_self_left, Nat.mod_eq_of_lt hd, Nat.add_mul_div_left _ _ (by omega), Nat.div_eq_of_lt hd, Nat.zero_add, ih]

/-! ### Ways to choose -/
def chs : Nat → Nat → Nat
  | _, 0 => 1
  | 0, _ + 1 => 0
  | n + 1, k + 1 => chs n k + chs n (k + 1)
@[simp] theorem chs_zero (n : Nat) : chs n 0 = 1 := by cases n <;> rfl
@[simp] theorem chs_zs (k : Nat) : chs 0 (k + 1) = 0 := rfl
theorem chs_ss (n k : Nat) : chs (n + 1) (k + 1) = chs n k + chs n (k + 1) := rfl
theorem chs_big : ∀ (n k : Nat), n < k → chs n k = 0
  | 0, k + 1, _ => rfl
  | n + 1, k + 1, h => by rw [chs_ss, chs_big n k (by omega), chs_big n (k + 1) (by omega)]
/-- The next from the one before. -/
theorem chs_next : ∀ (n k : Nat), (k + 1) * chs n (k + 1) = (n - k) * chs n k
  | 0, k => by simp
  | n + 1, 0 => by
    have h := chs_next n 0
    simp only [chs_zero, Nat.sub_zero, Nat.mul_one] at h ⊢
    rw [chs_ss, chs_zero]; omega
  | n + 1, k + 1 => by
    have h1 := chs_next n k
    have h2 := chs_next n (k + 1)
    rw [chs_ss, chs_ss n k]
    by_cases hk : k + 1 ≤ n
    · obtain ⟨m, rfl⟩ : ∃ m, n = k + 1 + m := ⟨n - (k + 1), by omega⟩
      have e1 : k + 1 + m - k = m + 1 := by omega
      have e2 : k + 1 + m - (k + 1) = m := by omega
      have e3 : k + 1 + m + 1 - (k + 1) = m + 1 := by omega
      rw [e1] at h1; rw [e2] at h2; rw [e3]
      generalize chs (k + 1 + m) k = a at *
      generalize chs (k + 1 + m) (k + 1) = c at *
      generalize chs (k + 1 + m) (k + 1 + 1) = d at *
      simp only [Nat.mul_add, Nat.add_mul, Nat.one_mul] at *
      omega
    · have c1 : chs n (k + 1) = 0 := chs_big _ _ (by omega)
      have c2 : chs n (k + 1 + 1) = 0 := chs_big _ _ (by omega)
      rw [c1, c2]
      by_cases hk2 : k ≤ n
      · have e : n = k := by omega
        subst e; simp
      · have e4 : n + 1 - (k + 1) = 0 := by omega
        rw [e4]; simp
theorem chs_div (n k : Nat) : chs n k * (n - k) / (k + 1) = chs n (k + 1) := by
  rw [Nat.mul_comm, ← chs_next, Nat.mul_div_cancel_left _ (by omega)]
theorem chs_le (n : Nat) : ∀ k, chs n k ≤ (n + 1) ^ k
  | 0 => by simp
  | k + 1 => by
    have h := chs_next n k
    have ih := chs_le n k
    have h1 : chs n (k + 1) ≤ (k + 1) * chs n (k + 1) := Nat.le_mul_of_pos_left _ (by omega)
    have h2 : (n - k) * chs n k ≤ (n + 1) * (n + 1) ^ k := Nat.mul_le_mul (by omega) ih
    rw [Nat.pow_succ, Nat.mul_comm ((n + 1) ^ k)]; omega

/-- One number of ways: i of r, the rest of s from e. -/
def way (r e s i : Nat) : Nat := if i ≤ s then chs r i * chs e (s - i) else 0
/-- The sum of those below f. -/
def sumW (r e s : Nat) : Nat → Nat
  | 0 => 0
  | f + 1 => sumW r e s f + way r e s f
/-- The sum changes by one product when one more is relevant. -/
theorem sumW_step (r e s : Nat) : ∀ f, f ≤ s → sumW r (e + 1) s (f + 1) = sumW (r + 1) e s (f + 1) + (if f < s then chs r f * chs e (s - f - 1) else 0)
  | 0, _ => by
    simp only [sumW, way, Nat.zero_add, Nat.zero_le, if_true, chs_zero, Nat.sub_zero, Nat.one_mul]
    cases s with
    | zero => simp
    | succ s => simp [chs_ss]; omega
  | f + 1, h => by
    have ih := sumW_step r e s f (by omega)
    rw [sumW, ih, sumW]
    have hw1 : way r (e + 1) s (f + 1) = chs r (f + 1) * chs (e + 1) (s - (f + 1)) := if_pos h
    have hw2 : way (r + 1) e s (f + 1) = chs (r + 1) (f + 1) * chs e (s - (f + 1)) := if_pos h
    rw [if_pos (show f < s by omega), sumW, sumW, hw1, hw2, chs_ss r f]
    have e1 : s - f - 1 = s - (f + 1) := by omega
    rw [e1]
    by_cases h3 : f + 1 < s
    · rw [if_pos h3]
      obtain ⟨t, ht⟩ : ∃ t, s - (f + 1) = t + 1 := ⟨s - (f + 1) - 1, by omega⟩
      have e2 : s - (f + 1) - 1 = t := by omega
      rw [e2, ht, chs_ss e t]
      simp only [Nat.mul_add, Nat.add_mul]; omega
    · rw [if_neg h3]
      have e3 : s - (f + 1) = 0 := by omega
      rw [e3]; simp; omega
theorem sumW_full0 (e s : Nat) : ∀ f, 0 < f → sumW 0 e s f = chs e s
  | 1, _ => by simp [sumW, way]
  | f + 2, _ => by
    rw [sumW, sumW_full0 e s (f + 1) (by omega)]
    simp [way]
theorem sumW_all : ∀ (r e s : Nat), sumW r e s (s + 1) = chs (r + e) s
  | 0, e, s => by rw [sumW_full0 e s _ (by omega), Nat.zero_add]
  | r + 1, e, s => by
    have h := sumW_step r e s s (Nat.le_refl _)
    rw [if_neg (by omega)] at h
    have h2 : sumW (r + 1) e s (s + 1) = sumW r (e + 1) s (s + 1) := by omega
    rw [h2, sumW_all r (e + 1) s]
    congr 1; omega
theorem sumW_mono {r e s f : Nat} (h : f ≤ s) : sumW (r + 1) e s (f + 1) ≤ sumW r (e + 1) s (f + 1) := by
  rw [sumW_step r e s f h]; omega
/-- From one number to the last. -/
def sumF (r e s : Nat) (a : Nat) : Nat → Nat
  | 0 => 0
  | k + 1 => sumF r e s a k + way r e s (a + k)
theorem sumF_eq (r e s a : Nat) : ∀ k, sumW r e s a + sumF r e s a k = sumW r e s (a + k)
  | 0 => by simp [sumF]
  | k + 1 => by rw [sumF, ← Nat.add_assoc (sumW r e s a), sumF_eq r e s a k]; rfl
theorem sumF_mono {r e s f : Nat} (h : f ≤ s) : sumF r (e + 1) s f (s + 1 - f) ≤ sumF (r + 1) e s f (s + 1 - f) := by
  have h1 := sumF_eq r (e + 1) s f (s + 1 - f)
  have h2 := sumF_eq (r + 1) e s f (s + 1 - f)
  have e1 : f + (s + 1 - f) = s + 1 := by omega
  rw [e1, sumW_all] at h1 h2
  have e2 : r + (e + 1) = r + 1 + e := by omega
  rw [e2] at h1
  cases f with
  | zero => simp only [sumW] at h1 h2; omega
  | succ f => have := @sumW_mono r e s f (by omega); omega
def fac : Nat → Nat
  | 0 => 1
  | n + 1 => (n + 1) * fac n
theorem fac_pos : ∀ n, 0 < fac n
  | 0 => by simp [fac]
  | n + 1 => Nat.mul_pos (by omega) (fac_pos n)
/-- One draw more. -/
theorem way_draw (r e k i : Nat) (h : i ≤ k) : fac (k + 1) * way r e (k + 1) (i + 1) = fac k * way r e k i * (r - i) + (if i + 1 ≤ k then fac k * way r e k (i + 1) * (e - (k - (i + 1))) else 0) := by
  have w1 : way r e (k + 1) (i + 1) = chs r (i + 1) * chs e (k - i) := by
    unfold way; rw [if_pos (by omega)]; congr 2; omega
  have w2 : way r e k i = chs r i * chs e (k - i) := if_pos h
  have n1 := chs_next r i
  rw [w1, w2, fac]
  by_cases h2 : i + 1 ≤ k
  · rw [if_pos h2]
    have w3 : way r e k (i + 1) = chs r (i + 1) * chs e (k - (i + 1)) := if_pos h2
    rw [w3]
    obtain ⟨j, hj⟩ : ∃ j, k = i + 1 + j := ⟨k - (i + 1), by omega⟩
    have n2 := chs_next e j
    have e1 : k - i = j + 1 := by omega
    have e2 : k - (i + 1) = j := by omega
    rw [e1, e2]
    have e3 : k + 1 = (i + 1) + (j + 1) := by omega
    rw [e3]
    generalize fac k = F
    generalize chs r (i + 1) = a at *
    generalize chs e (j + 1) = c at *
    have r1 : F * (chs r i * c) * (r - i) = F * c * ((i + 1) * a) := by rw [n1]; ac_rfl
    have r2 : F * (a * chs e j) * (e - j) = F * a * ((j + 1) * c) := by rw [n2]; ac_rfl
    rw [r1, r2]
    have r3 : (i + 1 + (j + 1)) * F * (a * c) = (i + 1) * F * (a * c) + (j + 1) * F * (a * c) := by
      rw [Nat.add_mul, Nat.add_mul]
    rw [r3]
    congr 1 <;> ac_rfl
  · rw [if_neg h2, Nat.add_zero]
    have e1 : k - i = 0 := by omega
    have e2 : k = i := by omega
    subst e2
    rw [e1]; simp only [chs_zero, Nat.mul_one]
    rw [Nat.mul_assoc (fac k), Nat.mul_comm (chs r k), ← n1]; ac_rfl
theorem way_draw0 (r e k : Nat) : fac (k + 1) * way r e (k + 1) 0 = fac k * way r e k 0 * (e - k) := by
  have n1 := chs_next e k
  simp only [way, Nat.zero_le, if_true, chs_zero, Nat.sub_zero, Nat.one_mul, fac]
  rw [Nat.mul_assoc (fac k), Nat.mul_comm (chs e k), ← n1]; ac_rfl
theorem way_big {r e s i : Nat} (h : r < i) : way r e s i = 0 := by
  unfold way; split
  · rw [chs_big r i h, Nat.zero_mul]
  · rfl
theorem way_big2 {r e s i : Nat} (h : e < s - i) : way r e s i = 0 := by
  unfold way; split
  · rw [chs_big e _ h, Nat.mul_zero]
  · rfl
theorem way_le (r e s i : Nat) (h : i ≤ s) : way r e s i ≤ chs (r + e) s := by
  rw [← sumW_all r e s]
  have : ∀ f, i < f → way r e s i ≤ sumW r e s f := by
    intro f
    induction f with
    | zero => omega
    | succ f ih =>
      intro hi
      rw [sumW]
      by_cases h2 : i = f
      · subst h2; omega
      · have := ih (by omega); omega
  exact this _ (by omega)
theorem sumW_le {r e s f : Nat} (h : f ≤ s + 1) : sumW r e s f ≤ chs (r + e) s := by
  rw [← sumW_all r e s]
  have : ∀ k, sumW r e s f ≤ sumW r e s (f + k) := by
    intro k
    induction k with
    | zero => exact Nat.le_refl _
    | succ k ih => rw [← Nat.add_assoc, sumW]; omega
  have h2 := this (s + 1 - f)
  rwa [show f + (s + 1 - f) = s + 1 by omega] at h2

end Go.Pv
