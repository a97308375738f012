/- Most and Fewest of the program, and the checks. -/
import Derived.Test.YtoakchnegkmepaaS3
set_option linter.unusedSimpArgs false
set_option linter.unusedVariables false
set_option maxRecDepth 100000
namespace Go.Pv
open Go Go.Proofs

@[simp] theorem take3 (a b c : MV) : List.take 3 (List.drop 0 [a, b, c]) = [a, b, c] := rfl
@[simp] theorem take2 (a b : MV) : List.take 2 (List.drop 0 [a, b]) = [a, b] := rfl
@[simp] theorem gd3 {α : Type} (a b c : MV) (o : Option α) {inst : Decidable (0 + 3 ≤ List.length [a, b, c])} : @gd α (0 + 3 ≤ List.length [a, b, c]) inst o = o := if_pos (by simp)
@[simp] theorem gd2 {α : Type} (a b : MV) (o : Option α) {inst : Decidable (0 + 2 ≤ List.length [a, b])} : @gd α (0 + 2 ≤ List.length [a, b]) inst o = o := if_pos (by simp)

/-! ### Halving -/
/-- The least number from lo on for which h holds, k ones at most. -/
def leastN (h : Nat → Bool) (lo : Nat) : Nat → Nat
  | 0 => lo
  | k + 1 => if h lo then lo else leastN h (lo + 1) k
theorem leastN_spec (h : Nat → Bool) : ∀ k lo, lo ≤ leastN h lo k ∧ leastN h lo k ≤ lo + k ∧ (leastN h lo k = lo ∨ h (leastN h lo k - 1) = false) ∧ (leastN h lo k = lo + k ∨ h (leastN h lo k) = true)
  | 0, lo => ⟨Nat.le_refl _, Nat.le_refl _, Or.inl rfl, Or.inl rfl⟩
  | k + 1, lo => by
    unfold leastN
    by_cases hh : h lo = true
    · rw [if_pos hh]; exact ⟨Nat.le_refl _, by omega, Or.inl rfl, Or.inr hh⟩
    · rw [if_neg hh]
      obtain ⟨h1, h2, h3, h4⟩ := leastN_spec h k (lo + 1)
      refine ⟨by omega, by omega, Or.inr ?_, ?_⟩
      · rcases h3 with h3 | h3
        · rw [h3, Nat.add_sub_cancel]; simpa using hh
        · exact h3
      · rcases h4 with h4 | h4
        · left; omega
        · right; exact h4
/-- Where what holds goes on to hold, there is one such number alone. -/
theorem least_uniq (h : Nat → Bool) (lo hi : Nat) (mono : ∀ x y, lo ≤ x → x ≤ y → y < hi → h x = true → h y = true) {r r' : Nat}
    (a1 : lo ≤ r) (a2 : r ≤ hi) (a3 : r = lo ∨ h (r - 1) = false) (a4 : r = hi ∨ h r = true)
    (b1 : lo ≤ r') (b2 : r' ≤ hi) (b3 : r' = lo ∨ h (r' - 1) = false) (b4 : r' = hi ∨ h r' = true) : r = r' := by
  by_cases c1 : r < r'
  · have d1 : h r = true := a4.resolve_left (by omega)
    have d2 : h (r' - 1) = false := b3.resolve_left (by omega)
    rw [mono r (r' - 1) a1 (by omega) (by omega) d1] at d2; cases d2
  · by_cases c2 : r' < r
    · have d1 : h r' = true := b4.resolve_left (by omega)
      have d2 : h (r - 1) = false := a3.resolve_left (by omega)
      rw [mono r' (r - 1) b1 (by omega) (by omega) d1] at d2; cases d2
    · omega
theorem leastN_uniq (h : Nat → Bool) (lo hi : Nat) (hlh : lo ≤ hi) (mono : ∀ x y, lo ≤ x → x ≤ y → y < hi → h x = true → h y = true) {r : Nat}
    (a1 : lo ≤ r) (a2 : r ≤ hi) (a3 : r = lo ∨ h (r - 1) = false) (a4 : r = hi ∨ h r = true) : r = leastN h lo (hi - lo) := by
  obtain ⟨h1, h2, h3, h4⟩ := leastN_spec h (hi - lo) lo
  have e : lo + (hi - lo) = hi := by omega
  rw [e] at h2 h4
  exact least_uniq h lo hi mono a1 a2 a3 a4 h1 h2 h3 h4

theorem first_L1 (fu n : Nat) (g : FuncId) (c : List MV) (hc : npL c = true) (h : Nat → Bool) (LO HI : Nat) (hH : HI < 1000000) (hg : ∀ x, LO ≤ x → x < HI → ev fu n g ([.int .i64 x] ++ c) [] = some ([.bool (h x)], [])) :
    ∀ (m lo hi k1 : Nat), hi ≤ lo + m → LO ≤ lo → lo ≤ hi → hi ≤ HI → m < k1 → (lo = LO ∨ h (lo - 1) = false) → (hi = HI ∨ h hi = true) →
    ∃ r, LO ≤ r ∧ r ≤ HI ∧ (r = LO ∨ h (r - 1) = false) ∧ (r = HI ∨ h r = true) ∧ sample_first_L1 fu n k1 lo hi g c = some ([.int .i64 r], [])
  | 0, lo, hi, k1 + 1, hm, h1, h2, h3, hk, h4, h5 => by
    have e : lo = hi := by omega
    subst e
    refine ⟨lo, h1, h3, h4, h5, ?_⟩
    rw [sample_first_L1_eq, cnd_decide, if_neg (by omega)]
  | m + 1, lo, hi, k1 + 1, hm, h1, h2, h3, hk, h4, h5 => by
    by_cases hl : lo < hi
    · obtain ⟨x, hx⟩ : ∃ x, x = lo + (hi - lo) / 2 := ⟨_, rfl⟩
      have e1 : IntKind.i64.wrap ((lo : Int) + IntKind.i64.wrap ((IntKind.i64.wrap ((hi : Int) - (lo : Int))).tdiv 2)) = (x : Int) := by
        rw [show IntKind.i64.wrap ((hi : Int) - (lo : Int)) = ((hi - lo : Nat) : Int) from by rw [w64 (by omega) (by omega)]; omega]
        have e2 : (((hi - lo : Nat) : Int)).tdiv 2 = (((hi - lo) / 2 : Nat) : Int) := rfl
        rw [e2, w64 (x := (((hi - lo) / 2 : Nat) : Int)) (by omega) (by omega), w64 (by omega) (by omega)]; omega
      rw [sample_first_L1_eq, cnd_decide, if_pos (by omega), e1, gd_pos (by decide), npG_pos (by rw [npL_append, hc]; rfl), hg x (by omega) (by omega), rB_some]
      by_cases hh : h x = true
      · rw [hh, cnd_true]
        exact first_L1 fu n g c hc h LO HI hH hg m lo x k1 (by omega) h1 (by omega) (by omega) (by omega) h4 (Or.inr hh)
      · rw [Bool.eq_false_iff.2 hh, cnd_false, i64s (by omega)]
        exact first_L1 fu n g c hc h LO HI hH hg m (x + 1) hi k1 (by omega) (by omega) (by omega) h3 (by omega) (Or.inr (by rw [Nat.add_sub_cancel]; exact Bool.eq_false_iff.2 hh)) h5
    · have e : lo = hi := by omega
      subst e
      refine ⟨lo, h1, h3, h4, h5, ?_⟩
      rw [sample_first_L1_eq, cnd_decide, if_neg (by omega)]

theorem first_ok (fu n : Nat) (g : FuncId) (c : List MV) (hc : npL c = true) (h : Nat → Bool) (lo hi : Nat) (hfu : 1000000 ≤ fu) (hH : hi ≤ 100000) (hlh : lo ≤ hi)
    (hg : ∀ x, lo ≤ x → x < hi → ev fu n g ([.int .i64 x] ++ c) [] = some ([.bool (h x)], []))
    (mono : ∀ x y, lo ≤ x → x ≤ y → y < hi → h x = true → h y = true) :
    ev fu (n + 1) 70 [.int .i64 lo, .int .i64 hi, .fn g c] [] = some ([.int .i64 (leastN h lo (hi - lo) : Nat)], []) := by
  obtain ⟨r, h1, h2, h3, h4, h5⟩ := first_L1 fu n g c hc h lo hi (by omega) hg (hi - lo) lo hi fu (by omega) (by omega) hlh (by omega) (by omega) (Or.inl rfl) (Or.inl rfl)
  rw [sample_first_eq, h5, leastN_uniq h lo hi hlh mono h1 h2 h3 h4]

/-! ### What is likely goes on to be -/
def P1 (p s f den up : Nat) (r : Nat) : Bool := likeS r (p - r) s 0 (f + 1) den up
def P2 (p s f den up : Nat) (r : Nat) : Bool := likeS r (p - r) s f (s + 1 - f) den up
theorem step_mono (h : Nat → Bool) (p : Nat) (hs : ∀ x, x < p → h x = true → h (x + 1) = true) : ∀ d x, x + d ≤ p → h x = true → h (x + d) = true
  | 0, x, _, hx => hx
  | d + 1, x, h1, hx => by
    have := hs (x + d) (by omega) (step_mono h p hs d x (by omega) hx)
    rwa [Nat.add_assoc] at this
theorem sumF0 (r e s k : Nat) : sumF r e s 0 k = sumW r e s k := by
  have h := sumF_eq r e s 0 k
  have z : sumW r e s 0 = 0 := rfl
  rw [z, Nat.zero_add, Nat.zero_add] at h; exact h
theorem P1_step (p s f den up : Nat) (hf : f ≤ s) (x : Nat) (hx : x < p) (h : (!P1 p s f den up x) = true) : (!P1 p s f den up (x + 1)) = true := by
  have e1 : p - x = p - (x + 1) + 1 := by omega
  have m := @sumW_mono x (p - (x + 1)) s f hf
  have s1 := sumF0 x (p - x) s (f + 1)
  have s2 := sumF0 (x + 1) (p - (x + 1)) s (f + 1)
  rw [← e1] at m
  have m2 : sumF (x + 1) (p - (x + 1)) s 0 (f + 1) ≤ sumF x (p - x) s 0 (f + 1) := by rw [s1, s2]; exact m
  have m3 := Nat.mul_le_mul_right den m2
  simp only [P1, likeS, Bool.not_eq_true', decide_eq_false_iff_not] at h ⊢
  have e2 : x + (p - x) = p := by omega
  have e3 : x + 1 + (p - (x + 1)) = p := by omega
  rw [e2] at h; rw [e3]; omega
theorem P2_step (p s f den up : Nat) (hf : f ≤ s) (x : Nat) (hx : x < p) (h : P2 p s f den up x = true) : P2 p s f den up (x + 1) = true := by
  have e1 : p - x = p - (x + 1) + 1 := by omega
  have m := @sumF_mono x (p - (x + 1)) s f hf
  rw [← e1] at m
  have m3 := Nat.mul_le_mul_right den m
  simp only [P2, likeS, decide_eq_true_eq] at h ⊢
  have e2 : x + (p - x) = p := by omega
  have e3 : x + 1 + (p - (x + 1)) = p := by omega
  rw [e2] at h; rw [e3]; omega
theorem P1_mono {p s f den up : Nat} (hf : f ≤ s) {x y : Nat} (h1 : x ≤ y) (h2 : y ≤ p) (h : (!P1 p s f den up x) = true) : (!P1 p s f den up y) = true := by
  have := step_mono (fun r => !P1 p s f den up r) p (P1_step p s f den up hf) (y - x) x (by omega) h
  rwa [show x + (y - x) = y by omega] at this
theorem P2_mono {p s f den up : Nat} (hf : f ≤ s) {x y : Nat} (h1 : x ≤ y) (h2 : y ≤ p) (h : P2 p s f den up x = true) : P2 p s f den up y = true := by
  have := step_mono (fun r => P2 p s f den up r) p (P2_step p s f den up hf) (y - x) x (by omega) h
  rwa [show x + (y - x) = y by omega] at this

/-- The greatest number that is likely. -/
def mostN (p s f den up : Nat) : Nat := leastN (fun r => !P1 p s f den up r) (f + 1) (p - s) - 1
def fewN (p s f den up : Nat) : Nat := leastN (P2 p s f den up) f (p - s)
theorem mostN_le (p s f den up : Nat) : f ≤ mostN p s f den up ∧ mostN p s f den up ≤ p - s + f := by
  obtain ⟨h1, h2, _⟩ := leastN_spec (fun r => !P1 p s f den up r) (p - s) (f + 1)
  unfold mostN; omega

theorem most_ok (fu n p s f num den up : Nat) (hfu : 1000000 ≤ fu) (hp : p ≤ 2000) (hs : s ≤ 60) (hsp : s ≤ p) (hf : f ≤ s) (hden : den ≤ 1000) (hup : num + up = den) :
    ev fu (n + 8) 69 [.agg (drw p s f), .agg (lvl num den)] [] = some ([.int .i64 (mostN p s f den up : Nat)], []) := by
  have e1 : IntKind.i64.wrap ((f : Int) + 1) = ((f + 1 : Nat) : Int) := i64s (by omega)
  have e2 : IntKind.i64.wrap (IntKind.i64.wrap (IntKind.i64.wrap ((p : Int) - (s : Int)) + (f : Int)) + 1) = ((p - s + f + 1 : Nat) : Int) := by
    rw [show IntKind.i64.wrap ((p : Int) - (s : Int)) = ((p - s : Nat) : Int) from by rw [w64 (by omega) (by omega)]; omega, ← Int.natCast_add, i64n (by omega), i64s (by omega)]
  rw [sample_most_eq]
  simp only [drw, lvl, cel_zero, cel_1, cel_2, dI_int, e1, e2]
  have h := first_ok fu (n + 6) 106 [.cptr (drw p s f) 0, .cptr (lvl num den) 0] (by simp [drw, lvl]) (fun r => !P1 p s f den up r) (f + 1) (p - s + f + 1) hfu (by omega) (by omega) (by
    intro x hx1 hx2
    have hl := likely_ok fu n x p s f num den up 0 f hfu (by omega) hp hs hf (by omega) (by omega) hup
    have e3 : ([.int .i64 (x : Int)] : List MV) ++ [.cptr (drw p s f) 0, .cptr (lvl num den) 0] = [.int .i64 (x : Int), .cptr (drw p s f) 0, .cptr (lvl num den) 0] := rfl
    rw [e3, sample_most_1_eq]
    simp only [drw, lvl, gd3, gd2, take3, take2, cel_2, dI_int] at hl ⊢
    have e4 : ((0 : Nat) : Int) = 0 := rfl
    rw [e4] at hl
    simp only [unC_cons, dI_int, unN_nil]
    rw [hl, rB_some]
    exact rfl) (fun x y a b c d => P1_mono hf b (by omega) d)
  have e5 : p - s + f + 1 - (f + 1) = p - s := by omega
  rw [e5] at h
  simp only [drw, lvl] at h
  rw [h, rI_some]
  obtain ⟨l1, l2, _⟩ := leastN_spec (fun r => !P1 p s f den up r) (p - s) (f + 1)
  have e6 : IntKind.i64.wrap (((leastN (fun r => !P1 p s f den up r) (f + 1) (p - s) : Nat) : Int) - 1) = ((mostN p s f den up : Nat) : Int) := by
    rw [w64 (by omega) (by omega)]; unfold mostN; omega
  rw [e6]


/-! ### The checks -/
/-- The first that is not zero. -/
def fnz : List Int → Int
  | [] => 0
  | x :: r => if x = 0 then fnz r else x
theorem rd_i1 {α : Type} {xs : List Int} {i : Nat} {x : Int} (h : xs[i]? = some x) (K : List MV → Option α) : rd (xs.map i1) (i : Int) K = K (i1 x) := rd_nat (by simp [h]) K
@[simp] theorem i1_len (x : Int) : (i1 x).length = 1 := rfl
theorem First_L1 (fu n : Nat) (xs : List Int) (hl : xs.length ≤ 100000) : ∀ (m i k1 : Nat), i + m = xs.length → m < k1 →
    base_First_L1 fu n k1 (xs.map i1) (xs.length : Nat) i = some ([.int .i64 (fnz (xs.drop i))], [])
  | 0, i, k1 + 1, hi, hk => by
    rw [base_First_L1_eq, cnd_decide, if_neg (by omega), List.drop_of_length_le (by omega)]; rfl
  | m + 1, i, k1 + 1, hi, hk => by
    have h : i < xs.length := by omega
    rw [base_First_L1_eq, cnd_decide, if_pos (by omega), rd_i1 (List.getElem?_eq_getElem h), gd_pos (i1_len _)]
    simp only [i1, cel_zero, dI_int, cnd_not, cnd_decide]
    rw [List.drop_eq_getElem_cons h, fnz, i64s (by omega)]
    split
    · exact First_L1 fu n xs hl m (i + 1) k1 (by omega) (by omega)
    · rfl
theorem First_ok (fu n : Nat) (xs : List Int) (hfu : 1000000 ≤ fu) (hl : xs.length ≤ 100000) :
    ev fu (n + 1) 79 [.list (xs.map i1)] [] = some ([.int .i64 (fnz xs)], []) := by
  have h := First_L1 fu n xs hl xs.length 0 fu (by omega) (by omega)
  rw [base_First_eq, List.length_map]
  exact h
theorem wrongOr_L1 (fu n : Nat) (xs : List Int) (hl : xs.length ≤ 100000) : ∀ (m i k1 : Nat), i + m = xs.length → m < k1 →
    chaselaw2_wrongOr_L1 fu n k1 (xs.map i1) (xs.length : Nat) i = some ([.int .i64 (fnz (xs.drop i))], [])
  | 0, i, k1 + 1, hi, hk => by
    rw [chaselaw2_wrongOr_L1_eq, cnd_decide, if_neg (by omega), List.drop_of_length_le (by omega)]; rfl
  | m + 1, i, k1 + 1, hi, hk => by
    have h : i < xs.length := by omega
    rw [chaselaw2_wrongOr_L1_eq, cnd_decide, if_pos (by omega), rd_i1 (List.getElem?_eq_getElem h), gd_pos (i1_len _)]
    simp only [i1, cel_zero, dI_int, cnd_not, cnd_decide]
    rw [List.drop_eq_getElem_cons h, fnz, i64s (by omega)]
    split
    · exact wrongOr_L1 fu n xs hl m (i + 1) k1 (by omega) (by omega)
    · rfl
theorem wrongOr_ok (fu n : Nat) (xs : List Int) (hfu : 1000000 ≤ fu) (hl : xs.length ≤ 100000) :
    ev fu (n + 1) 21 [.list (xs.map i1)] [] = some ([.int .i64 (fnz xs)], []) := by
  have h := wrongOr_L1 fu n xs hl xs.length 0 fu (by omega) (by omega)
  rw [chaselaw2_wrongOr_eq, List.length_map]
  exact h

theorem When_ok (fu n : Nat) (b : Bool) (e : Int) : ev fu (n + 1) 73 [.bool b, .int .i64 e] [] = some ([.int .i64 (if b then e else 0)], []) := by
  rw [base_When_eq]; cases b <;> exact rfl
def inB (x a b : Int) : Bool := decide (a ≤ x ∧ x ≤ b)
theorem In_ok (fu n : Nat) (x a b : Int) : ev fu (n + 1) 74 [.int .i64 x, .int .i64 a, .int .i64 b] [] = some ([.bool (inB x a b)], []) := by
  rw [base_In_eq, cnd_decide]; unfold inB
  by_cases h : a ≤ x
  · rw [if_pos h]; simp [h]
  · rw [if_neg h]; simp [h]
theorem in_ok (fu n : Nat) (x a b : Int) : ev fu (n + 1) 75 [.int .i64 x, .int .i64 a, .int .i64 b] [] = some ([.bool (inB x a b)], []) := by
  rw [chaseref2_in_eq, cnd_decide]; unfold inB
  by_cases h : a ≤ x
  · rw [if_pos h]; simp [h]
  · rw [if_neg h]; simp [h]

def lvlE (p q : Int) : Int := if inB q 2 1000 && inB p 1 (q - 1) then 0 else 1
def drwE (p s f : Int) : Int := if inB p 1 2000 && (inB s 1 (mm2 false 60 p) && inB f 0 s) then 0 else 1

theorem CheckLevel_ok (fu n : Nat) (p q : Int) : ev fu (n + 2) 17 [.agg (lvl p q)] [] = some ([.int .i64 (lvlE p q)], []) := by
  rw [sample_CheckLevel_eq]
  simp only [lvl, cel_zero, cel_1, dI_int, In_ok, rB_some, cnd_not]
  unfold lvlE
  by_cases h : inB q 2 1000 = true
  · have hb : 2 ≤ q ∧ q ≤ 1000 := by simpa [inB] using h
    rw [h, cnd_true, w64 (by omega) (by omega), When_ok, rI_some]
    cases inB p 1 (q - 1) <;> rfl
  · rw [Bool.eq_false_iff.2 h, cnd_false, When_ok, rI_some]; rfl
theorem LevelFault_ok (fu n : Nat) (p q : Int) : ev fu (n + 2) 18 [.agg (lvl p q)] [] = some ([.int .i64 (lvlE p q)], []) := by
  rw [chaseref2_LevelFault_eq]
  simp only [lvl, cel_zero, cel_1, dI_int, in_ok, rB_some, cnd_not]
  unfold lvlE
  by_cases h : inB q 2 1000 = true
  · have hb : 2 ≤ q ∧ q ≤ 1000 := by simpa [inB] using h
    rw [h, cnd_true, w64 (by omega) (by omega)]
    cases inB p 1 (q - 1) <;> exact rfl
  · rw [Bool.eq_false_iff.2 h, cnd_false]; exact rfl
theorem CheckDrawn_ok (fu n : Nat) (p s f : Int) : ev fu (n + 2) 19 [.agg (drw p s f)] [] = some ([.int .i64 (drwE p s f)], []) := by
  rw [sample_CheckDrawn_eq]
  simp only [drw, cel_zero, cel_1, cel_2, dI_int, In_ok, rB_some, cnd_not, When_ok, rI_some]
  unfold drwE
  cases inB p 1 2000 <;> cases inB s 1 (mm2 false 60 p) <;> cases inB f 0 s <;> exact rfl
theorem DrawnFault_ok (fu n : Nat) (p s f : Int) : ev fu (n + 2) 20 [.agg (drw p s f)] [] = some ([.int .i64 (drwE p s f)], []) := by
  rw [chaseref2_DrawnFault_eq]
  simp only [drw, cel_zero, cel_1, cel_2, dI_int, in_ok, rB_some, cnd_not]
  unfold drwE
  cases inB p 1 2000 <;> cases inB s 1 (mm2 false 60 p) <;> cases inB f 0 s <;> exact rfl

theorem lvlE_0 {p q : Int} (h : lvlE p q = 0) : ∃ num den up : Nat, p = num ∧ q = den ∧ num + up = den ∧ den ≤ 1000 ∧ 1 ≤ num ∧ 1 ≤ up := by
  unfold lvlE at h
  by_cases h1 : (inB q 2 1000 && inB p 1 (q - 1)) = true
  · simp [inB] at h1
    exact ⟨p.toNat, q.toNat, (q - p).toNat, by omega, by omega, by omega, by omega, by omega, by omega⟩
  · rw [if_neg h1] at h; cases h
theorem mm2_60 (p : Int) : mm2 false 60 p = if p < 60 then p else 60 := rfl
theorem drwE_0 {p s f : Int} (h : drwE p s f = 0) : ∃ p' s' f' : Nat, p = p' ∧ s = s' ∧ f = f' ∧ p' ≤ 2000 ∧ s' ≤ 60 ∧ s' ≤ p' ∧ f' ≤ s' ∧ 1 ≤ s' := by
  unfold drwE at h
  by_cases h1 : (inB p 1 2000 && (inB s 1 (mm2 false 60 p) && inB f 0 s)) = true
  · simp only [inB, Bool.and_eq_true, decide_eq_true_eq] at h1
    rw [mm2_60] at h1
    refine ⟨p.toNat, s.toNat, f.toNat, ?_⟩
    have h2 := h1.2.1.2
    split at h2 <;> refine ⟨?_, ?_, ?_, ?_, ?_, ?_, ?_, ?_⟩ <;> omega
  · rw [if_neg h1] at h; cases h
theorem lvlE_01 (p q : Int) : lvlE p q = 0 ∨ lvlE p q = 1 := by unfold lvlE; split <;> simp
theorem drwE_01 (p s f : Int) : drwE p s f = 0 ∨ drwE p s f = 1 := by unfold drwE; split <;> simp

theorem drawnError_ok (fu n : Nat) (p s f num den : Int) (hfu : 1000000 ≤ fu) : ev fu (n + 3) 68 [.agg (drw p s f), .agg (lvl num den)] [] = some ([.int .i64 (fnz [drwE p s f, lvlE num den])], []) := by
  have h1 := CheckDrawn_ok fu n p s f
  have h2 := CheckLevel_ok fu n num den
  have h3 := First_ok fu (n + 1) [drwE p s f, lvlE num den] hfu (by simp)
  simp only [drw, lvl, List.map_cons, List.map_nil, i1] at h1 h2 h3
  rw [sample_drawnError_eq]
  simp only [drw, lvl, gd3, gd2, take3, take2, eqM_self']
  rw [h1, rI_some, h2, rI_some, h3, rI_some]

theorem Most_bad (fu n : Nat) (p s f num den e : Int) (hfu : 1000000 ≤ fu) (he : fnz [drwE p s f, lvlE num den] = e) (h0 : e ≠ 0) :
    ev fu (n + 4) 15 [.agg (drw p s f), .agg (lvl num den)] [] = some ([.int .i64 0, .int .i64 e], []) := by
  have h := drawnError_ok fu n p s f num den hfu
  rw [he] at h
  rw [sample_Most_eq]
  simp only [drw, lvl, gd3, gd2, take3, take2] at h ⊢
  rw [h, rI_some, cnd_not, cnd_decide, if_neg h0]
theorem Fewest_bad (fu n : Nat) (p s f num den e : Int) (hfu : 1000000 ≤ fu) (he : fnz [drwE p s f, lvlE num den] = e) (h0 : e ≠ 0) :
    ev fu (n + 4) 16 [.agg (drw p s f), .agg (lvl num den)] [] = some ([.int .i64 0, .int .i64 e], []) := by
  have h := drawnError_ok fu n p s f num den hfu
  rw [he] at h
  rw [sample_Fewest_eq]
  simp only [drw, lvl, gd3, gd2, take3, take2] at h ⊢
  rw [h, rI_some, cnd_not, cnd_decide, if_neg h0]
theorem Most_ok (fu n p s f num den up : Nat) (hfu : 1000000 ≤ fu) (hp : p ≤ 2000) (hs : s ≤ 60) (hsp : s ≤ p) (hf : f ≤ s) (hden : den ≤ 1000) (hup : num + up = den) (he : fnz [drwE p s f, lvlE num den] = 0) :
    ev fu (n + 9) 15 [.agg (drw p s f), .agg (lvl num den)] [] = some ([.int .i64 (mostN p s f den up : Nat), .int .i64 0], []) := by
  have h := drawnError_ok fu (n + 5) p s f num den hfu
  rw [he] at h
  have h2 := most_ok fu n p s f num den up hfu hp hs hsp hf hden hup
  rw [sample_Most_eq]
  simp only [drw, lvl, gd3, gd2, take3, take2] at h h2 ⊢
  rw [h, rI_some, cnd_not, cnd_decide, if_pos rfl, h2, rI_some]
theorem Fewest_ok (fu n p s f num den up : Nat) (hfu : 1000000 ≤ fu) (hp : p ≤ 2000) (hs : s ≤ 60) (hsp : s ≤ p) (hf : f ≤ s) (hden : den ≤ 1000) (hup : num + up = den) (he : fnz [drwE p s f, lvlE num den] = 0) :
    ev fu (n + 8) 16 [.agg (drw p s f), .agg (lvl num den)] [] = some ([.int .i64 (fewN p s f den up : Nat), .int .i64 0], []) := by
  have h := drawnError_ok fu (n + 4) p s f num den hfu
  rw [he] at h
  have e2 : IntKind.i64.wrap (IntKind.i64.wrap ((p : Int) - (s : Int)) + (f : Int)) = ((p - s + f : Nat) : Int) := by
    rw [show IntKind.i64.wrap ((p : Int) - (s : Int)) = ((p - s : Nat) : Int) from by rw [w64 (by omega) (by omega)]; omega, ← Int.natCast_add, i64n (by omega)]
  have h2 := first_ok fu (n + 6) 71 [.cptr (drw p s f) 0, .cptr (lvl num den) 0] (by simp [drw, lvl]) (P2 p s f den up) f (p - s + f) hfu (by omega) (by omega) (by
    intro x hx1 hx2
    have hl := likely_ok fu n x p s f num den up f s hfu (by omega) hp hs (Nat.le_refl _) hf (by omega) hup
    have e3 : ([.int .i64 (x : Int)] : List MV) ++ [.cptr (drw p s f) 0, .cptr (lvl num den) 0] = [.int .i64 (x : Int), .cptr (drw p s f) 0, .cptr (lvl num den) 0] := rfl
    rw [e3, sample_Fewest_1_eq]
    simp only [drw, lvl, gd3, gd2, take3, take2, cel_1, cel_2, dI_int] at hl ⊢
    simp only [unC_cons, dI_int, unN_nil]
    rw [hl, rB_some]
    exact rfl) (fun x y a b c d => P2_mono hf b (by omega) d)
  have e5 : p - s + f - f = p - s := by omega
  rw [e5] at h2
  rw [sample_Fewest_eq]
  simp only [drw, lvl, gd3, gd2, take3, take2] at h h2 ⊢
  rw [h, rI_some, cnd_not, cnd_decide, if_pos rfl]
  simp only [cel_zero, cel_1, cel_2, dI_int, e2]
  rw [h2, rI_some]
  exact rfl

end Go.Pv
