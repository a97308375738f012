/- The law SampleRecalls. -/
import Derived.Test.YtoakchnegkmepaaSB
set_option linter.unusedSimpArgs false
set_option linter.unusedVariables false
set_option maxRecDepth 100000
namespace Go.Pv
open Go Go.Proofs

/-! ### Fractions in lowest terms -/
def frA (x y : Nat) : Int := IntKind.i64.wrap ((x : Int).tdiv ((Nat.gcd x y : Nat) : Int))
def frB (x y : Nat) : Int := IntKind.i64.wrap ((y : Int).tdiv ((Nat.gcd x y : Nat) : Int))
theorem gcd_step (x y : Nat) : Nat.gcd x y = Nat.gcd y (x % y) := by
  rw [Nat.gcd_comm x y, Nat.gcd_rec y x, Nat.gcd_comm]
theorem frac_L1 (fu n : Nat) (v0 v1 b0 b1 : Int) : ∀ (m x y k1 : Nat), y ≤ m → m < k1 → 0 < x + y →
    sample_fraction_L1 fu n k1 v0 v1 x y b0 b1 = some ([(none, .agg [.int .i64 (IntKind.i64.wrap (v0.tdiv ((Nat.gcd x y : Nat) : Int))), .int .i64 (IntKind.i64.wrap (v1.tdiv ((Nat.gcd x y : Nat) : Int)))])], [])
  | m, x, y, 0, h1, h2, h3 => by omega
  | m, x, y, k1 + 1, h1, h2, h3 => by
    rw [sample_fraction_L1_eq, cnd_decide]
    by_cases hy : y = 0
    · subst hy
      rw [if_neg (by omega), gd_pos (by omega), gd_pos (by omega), Nat.gcd_zero_right]
    · have hl := Nat.mod_lt x (show y > 0 by omega)
      have e : ((x : Int)).tmod (y : Int) = ((x % y : Nat) : Int) := rfl
      cases m with
      | zero => omega
      | succ m =>
        rw [if_pos (by omega), gd_pos (by omega), e, frac_L1 fu n v0 v1 b0 b1 m y (x % y) k1 (by omega) (by omega) (by omega), gcd_step x y]
theorem Lowest_L1 (fu n : Nat) (v0 v1 b0 b1 : Int) : ∀ (m x y k1 : Nat), y ≤ m → m < k1 → 0 < x + y →
    chaseref2_Lowest_L1 fu n k1 v0 v1 x y b0 b1 = some ([(none, .agg [.int .i64 (IntKind.i64.wrap (v0.tdiv ((Nat.gcd x y : Nat) : Int))), .int .i64 (IntKind.i64.wrap (v1.tdiv ((Nat.gcd x y : Nat) : Int)))])], [])
  | m, x, y, 0, h1, h2, h3 => by omega
  | m, x, y, k1 + 1, h1, h2, h3 => by
    rw [chaseref2_Lowest_L1_eq, cnd_not, cnd_decide]
    by_cases hy : y = 0
    · subst hy
      rw [if_pos (by omega), cnd_decide, if_neg (by omega), chaseref2_Lowest_J1_eq, cnd_decide, if_neg (by omega), chaseref2_Lowest_J2_eq, gd_pos (by omega), gd_pos (by omega), Nat.gcd_zero_right]
    · have hl := Nat.mod_lt x (show y > 0 by omega)
      have e : ((x : Int)).tmod (y : Int) = ((x % y : Nat) : Int) := rfl
      cases m with
      | zero => omega
      | succ m =>
        rw [if_neg (by omega), gd_pos (by omega), e, Lowest_L1 fu n v0 v1 b0 b1 m y (x % y) k1 (by omega) (by omega) (by omega), gcd_step x y]
theorem fraction_ok (fu n x y : Nat) (hfu : 1000000 ≤ fu) (hx : x ≤ 1000000) (hy : 0 < y) (hy2 : y < 1000000) :
    ev fu (n + 1) 80 [.int .i64 x, .int .i64 y] [] = some ([(none, .agg [.int .i64 (frA x y), .int .i64 (frB x y)])], []) := by
  have e : mm2 true (x : Int) (IntKind.i64.wrap (0 - (x : Int))) = (x : Int) := by
    rw [w64 (by omega) (by omega)]; unfold mm2; simp only [if_true]; split <;> omega
  rw [sample_fraction_eq, e, frac_L1 fu n x y 0 0 y x y fu (Nat.le_refl _) (by omega) (by omega)]
  exact npO_0 (by simp)
theorem Lowest_ok (fu n x y : Nat) (hfu : 1000000 ≤ fu) (hx : x ≤ 1000000) (hy : 0 < y) (hy2 : y < 1000000) :
    ev fu (n + 1) 40 [.int .i64 x, .int .i64 y] [] = some ([(none, .agg [.int .i64 (frA x y), .int .i64 (frB x y)])], []) := by
  rw [chaseref2_Lowest_eq, Lowest_L1 fu n x y 0 0 y x y fu (Nat.le_refl _) (by omega) (by omega)]
  exact npO_0 (by simp)

/-! ### Recall, SureRecall, Elusion -/
def fndE (x : Int) : Int := if inB x 0 2000 then 0 else 1
theorem manyError_ok (fu n : Nat) (x : Int) : ev fu (n + 2) 101 [.int .i64 x] [] = some ([(none, .int .i64 (fndE x))], []) := by
  rw [sample_manyError_eq, In_ok, rB_some, When_ok, rI_some, npO_0 (by simp)]
  unfold fndE; cases inB x 0 2000 <;> rfl
theorem foundError_ok (fu n : Nat) (x p s f : Int) (hfu : 1000000 ≤ fu) : ev fu (n + 3) 85 [.int .i64 x, .agg (drw p s f)] [] = some ([(none, .int .i64 (fnz [fndE x, drwE p s f]))], []) := by
  have h1 := CheckDrawn_ok fu n p s f
  have h3 := First_ok fu (n + 1) [fndE x, drwE p s f] hfu (by simp)
  simp only [drw, List.map_cons, List.map_nil, i1] at h1 h3
  rw [sample_foundError_eq]
  simp only [drw, gd3, take3, eqM_self', manyError_ok, rI_some]
  rw [npG_pos (by simp), h1, rI_some, npG_pos (by simp), h3, rI_some]
  exact npO_0 (by simp)
theorem Recall_bad (fu n : Nat) (x p s f e : Int) (hfu : 1000000 ≤ fu) (he : fnz [fndE x, drwE p s f] = e) (h0 : e ≠ 0) :
    ev fu (n + 4) 37 [.int .i64 x, .agg (drw p s f)] [] = some ([(none, .agg [.int .i64 0, .int .i64 0]), (none, .int .i64 e)], []) := by
  have h := foundError_ok fu n x p s f hfu
  rw [he] at h
  rw [sample_Recall_eq]
  simp only [drw, gd3, take3] at h ⊢
  rw [npG_pos (by simp), h, rI_some, cnd_not, cnd_decide, if_neg h0]
  exact npO_0 (by simp)
theorem Recall_ok (fu n x p s f : Nat) (hfu : 1000000 ≤ fu) (hx : x ≤ 2000) (hp : p ≤ 2000) (hs : s ≤ 60) (hf : f ≤ 60) (he : fnz [fndE x, drwE p s f] = 0) :
    ev fu (n + 4) 37 [.int .i64 x, .agg (drw p s f)] [] = some (if x * s + p * f = 0 then [(none, .agg [.int .i64 0, .int .i64 0]), (none, .int .i64 16)] else [(none, .agg [.int .i64 (frA (x * s) (x * s + p * f)), .int .i64 (frB (x * s) (x * s + p * f))]), (none, .int .i64 0)], []) := by
  have h := foundError_ok fu n x p s f hfu
  rw [he] at h
  have b1 : x * s ≤ 2000 * 60 := Nat.mul_le_mul hx hs
  have b2 : p * f ≤ 2000 * 60 := Nat.mul_le_mul hp hf
  rw [sample_Recall_eq]
  simp only [drw, gd3, take3] at h ⊢
  rw [npG_pos (by simp), h, rI_some, cnd_not, cnd_decide, if_pos rfl]
  simp only [cel_zero, cel_1, cel_2, dI_int]
  rw [← Int.natCast_mul, ← Int.natCast_mul, i64n (by omega), i64n (by omega), ← Int.natCast_add, i64n (by omega), cnd_decide]
  by_cases hz : x * s + p * f = 0
  · rw [if_pos (by omega), if_pos hz]; exact npO_0 (by simp)
  · rw [if_neg (by omega), if_neg hz, fraction_ok fu (n + 2) (x * s) (x * s + p * f) hfu (by omega) (by omega) (by omega)]
    simp only [callE_some', rC_cons, dA_agg, unC_cons, dI_int, unN_nil, rN_nil]
    exact npO_0 (by simp)
theorem Sure_bad (fu n : Nat) (x p s f num den e : Int) (hfu : 1000000 ≤ fu) (he : fnz [fnz [fndE x, drwE p s f], lvlE num den] = e) (h0 : e ≠ 0) :
    ev fu (n + 4) 38 [.int .i64 x, .agg (drw p s f), .agg (lvl num den)] [] = some ([(none, .agg [.int .i64 0, .int .i64 0]), (none, .int .i64 e)], []) := by
  have h := foundError_ok fu n x p s f hfu
  have h2 := CheckLevel_ok fu (n + 1) num den
  have h3 := First_ok fu (n + 2) [fnz [fndE x, drwE p s f], lvlE num den] hfu (by simp)
  rw [he] at h3
  simp only [List.map_cons, List.map_nil, i1] at h3
  rw [sample_SureRecall_eq]
  simp only [drw, lvl, gd3, take3, gd2, take2, eqM_self'] at h h2 ⊢
  rw [npG_pos (by simp), h, rI_some, npG_pos (by simp), h2, rI_some, npG_pos (by simp), h3, rI_some, cnd_not, cnd_decide, if_neg h0]
  exact npO_0 (by simp)
theorem Sure_ok (fu n x p s f num den up : Nat) (hfu : 1000000 ≤ fu) (hx : x ≤ 2000) (hp : p ≤ 2000) (hs : s ≤ 60) (hsp : s ≤ p) (hf : f ≤ s) (hden : den ≤ 1000) (hup : num + up = den) (he : fnz [fnz [fndE x, drwE p s f], lvlE num den] = 0) :
    ev fu (n + 9) 38 [.int .i64 x, .agg (drw p s f), .agg (lvl num den)] [] = some (if x + mostN p s f den up = 0 then [(none, .agg [.int .i64 0, .int .i64 0]), (none, .int .i64 16)] else [(none, .agg [.int .i64 (frA x (x + mostN p s f den up)), .int .i64 (frB x (x + mostN p s f den up))]), (none, .int .i64 0)], []) := by
  have h := foundError_ok fu (n + 5) x p s f hfu
  have h2 := CheckLevel_ok fu (n + 6) num den
  have h3 := First_ok fu (n + 7) [fnz [fndE x, drwE p s f], lvlE num den] hfu (by simp)
  have h4 := most_ok fu n p s f num den up hfu hp hs hsp hf hden hup
  have hb := mostN_le p s f den up
  rw [he] at h3
  simp only [List.map_cons, List.map_nil, i1] at h3
  rw [sample_SureRecall_eq]
  simp only [drw, lvl, gd3, take3, gd2, take2, eqM_self'] at h h2 h4 ⊢
  rw [npG_pos (by simp), h, rI_some, npG_pos (by simp), h2, rI_some, npG_pos (by simp), h3, rI_some, cnd_not, cnd_decide, if_pos rfl, npG_pos (by simp), h4, rI_some]
  rw [← Int.natCast_add, i64n (by omega), cnd_decide]
  by_cases hz : x + mostN p s f den up = 0
  · rw [if_pos (by omega), if_pos hz]; exact npO_0 (by simp)
  · rw [if_neg (by omega), if_neg hz, fraction_ok fu (n + 7) x (x + mostN p s f den up) hfu (by omega) (by omega) (by omega)]
    simp only [callE_some', rC_cons, dA_agg, unC_cons, dI_int, unN_nil, rN_nil]
    exact npO_0 (by simp)
theorem Elusion_bad (fu n : Nat) (p s f e : Int) (he : drwE p s f = e) (h0 : e ≠ 0) :
    ev fu (n + 3) 39 [.agg (drw p s f)] [] = some ([(none, .agg [.int .i64 0, .int .i64 0]), (none, .int .i64 e)], []) := by
  have h1 := CheckDrawn_ok fu n p s f
  rw [he] at h1
  rw [sample_Elusion_eq]
  simp only [drw, gd3, take3] at h1 ⊢
  rw [npG_pos (by simp), h1, rI_some, cnd_not, cnd_decide, if_neg h0]
  exact npO_0 (by simp)
theorem Elusion_ok (fu n p s f : Nat) (hfu : 1000000 ≤ fu) (hs : s ≤ 60) (hs0 : 1 ≤ s) (hf : f ≤ 60) (he : drwE p s f = 0) :
    ev fu (n + 3) 39 [.agg (drw p s f)] [] = some ([(none, .agg [.int .i64 (frA f s), .int .i64 (frB f s)]), (none, .int .i64 0)], []) := by
  have h1 := CheckDrawn_ok fu n p s f
  rw [he] at h1
  rw [sample_Elusion_eq]
  simp only [drw, gd3, take3] at h1 ⊢
  rw [npG_pos (by simp), h1, rI_some, cnd_not, cnd_decide, if_pos rfl]
  simp only [cel_1, cel_2, dI_int]
  rw [fraction_ok fu (n + 1) f s hfu (by omega) (by omega) (by omega)]
  simp only [callE_some', rC_cons, dA_agg, unC_cons, dI_int, unN_nil, rN_nil]
  exact npO_0 (by simp)

theorem eqc2 (a b : Int) : eqCells [TK.int IntKind.i64, TK.int IntKind.i64] ([.int .i64 a, .int .i64 b] : List MV) ([.int .i64 a, .int .i64 b] : List MV) = some true := by
  simp [eqCells, eq1]

set_option maxHeartbeats 4000000
theorem Recalls_J1 (fu n : Nat) (x p s f num den e1 e2 e3 a0 a1 b0 b1 c0 c1 : Int) (l : List (List MV)) (at_ : Int) (hfu : 1000000 ≤ fu)
    (hR : ev fu (n + 10) 37 [.int .i64 x, .agg (drw p s f)] [] = some ([(none, .agg [.int .i64 a0, .int .i64 a1]), (none, .int .i64 e1)], []))
    (hS : ev fu (n + 10) 38 [.int .i64 x, .agg (drw p s f), .agg (lvl num den)] [] = some ([(none, .agg [.int .i64 b0, .int .i64 b1]), (none, .int .i64 e2)], []))
    (hE : ev fu (n + 10) 39 [.agg (drw p s f)] [] = some ([(none, .agg [.int .i64 c0, .int .i64 c1]), (none, .int .i64 e3)], [])) :
    chaselaw2_SampleRecalls_J1 fu (n + 10) x e1 e2 e3 0 (!(inB x 0 2000)) l at_ p s f num den a0 a1 b0 b1 c0 c1 0 0 = some ([(none, .bool true)], []) := by
  have q1 := DrawnFault_ok fu (n + 8) p s f
  have q2 := LevelFault_ok fu (n + 8) num den
  have q3 := wrongOr_ok fu (n + 9) [fndE x, drwE p s f] hfu (by simp)
  have q4 := wrongOr_ok fu (n + 9) [fnz [fndE x, drwE p s f], lvlE num den] hfu (by simp)
  have q5 := drawn_ok fu n hfu
  simp only [List.map_cons, List.map_nil, i1] at q3 q4
  by_cases hd : drwE p s f = 0
  · rw [hd] at q1 q3 q4
    obtain ⟨p, s, f, rfl, rfl, rfl, y1, y2, y3, y4, y5⟩ := drwE_0 hd
    have m3 := Elusion_ok fu (n + 7) p s f hfu y2 y5 (by omega) hd
    have l3 := Lowest_ok fu (n + 9) f s hfu (by omega) (by omega) (by omega)
    rw [hE] at m3
    simp only [Option.some.injEq, Prod.mk.injEq, List.cons.injEq, MV.agg.injEq, MV.int.injEq, true_and, and_true] at m3
    obtain ⟨⟨rfl, rfl⟩, rfl⟩ := m3
    cases hx : inB x 0 2000
    · have hf : fndE x = 1 := by unfold fndE; rw [hx]; rfl
      have hz : fnz [(1 : Int), 0] = 1 := rfl
      have hz2 : fnz [(1 : Int), lvlE num den] = 1 := rfl
      rw [hf, hz] at q3 q4
      rw [hz2] at q4
      have m1 := Recall_bad fu (n + 6) x p s f 1 hfu (by rw [hf, hd]; rfl) (by omega)
      have m2 := Sure_bad fu (n + 6) x p s f num den 1 hfu (by rw [hf, hd]; rfl) (by omega)
      rw [hR] at m1; rw [hS] at m2
      simp only [Option.some.injEq, Prod.mk.injEq, List.cons.injEq, MV.agg.injEq, MV.int.injEq, true_and, and_true] at m1 m2
      obtain ⟨⟨rfl, rfl⟩, rfl⟩ := m1
      obtain ⟨⟨rfl, rfl⟩, rfl⟩ := m2
      simp only [drw, lvl] at *
      have z1 : ¬ ((1 : Int) = 0) := by omega
      simp only [chaselaw2_SampleRecalls_J1_eq, chaselaw2_SampleRecalls_J2_eq, chaselaw2_SampleRecalls_J3_eq, chaselaw2_SampleRecalls_J4_eq, chaselaw2_SampleRecalls_J5_eq, chaselaw2_SampleRecalls_J6_eq, chaselaw2_SampleRecalls_J7_eq, chaselaw2_SampleRecalls_J8_eq, chaselaw2_SampleRecalls_J9_eq, chaselaw2_SampleRecalls_J10_eq, chaselaw2_SampleRecalls_J11_eq, chaselaw2_SampleRecalls_J12_eq, chaselaw2_SampleRecalls_J13_eq, chaselaw2_SampleRecalls_J14_eq, chaselaw2_SampleRecalls_J15_eq, chaselaw2_SampleRecalls_J16_eq, chaselaw2_SampleRecalls_J17_eq, chaselaw2_SampleRecalls_J18_eq, chaselaw2_SampleRecalls_J19_eq, npG_pos, npL_cons, np_agg, np_int, np_list, npLL_cons, npLL_nil, npL_nil, Bool.and_true, callE_some', rC_cons, dA_agg, unC_cons, unN_nil, dB_bool, rN_nil, dI_int, cnd_decide, cnd_not, cnd_true, cnd_false, eqM_self', eqO_self, rI_some, rB_some, sO_some', if_true, eqc2, Bool.not_false, q1, q2, q3, q4, q5, l3, if_neg z1]
    · have hf : fndE x = 0 := by unfold fndE; rw [hx]; rfl
      have hz : fnz [(0 : Int), 0] = 0 := rfl
      rw [hf, hz] at q3 q4
      obtain ⟨x, rfl, hx2⟩ : ∃ q : Nat, x = q ∧ q ≤ 2000 := ⟨x.toNat, by simp [inB] at hx; omega, by simp [inB] at hx; omega⟩
      have m1 := Recall_ok fu (n + 6) x p s f hfu hx2 y1 y2 (by omega) (by rw [hf, hd]; rfl)
      have t1 : x * s ≤ 2000 * 60 := Nat.mul_le_mul hx2 y2
      have t2 : p * f ≤ 2000 * 60 := Nat.mul_le_mul y1 (by omega)
      have w1 : IntKind.i64.wrap ((x : Int) * (s : Int)) = ((x * s : Nat) : Int) := by rw [← Int.natCast_mul, i64n (by omega)]
      have w2 : IntKind.i64.wrap ((p : Int) * (f : Int)) = ((p * f : Nat) : Int) := by rw [← Int.natCast_mul, i64n (by omega)]
      have w3 : IntKind.i64.wrap (((x * s : Nat) : Int) + ((p * f : Nat) : Int)) = ((x * s + p * f : Nat) : Int) := by rw [← Int.natCast_add, i64n (by omega)]
      rw [hR] at m1
      by_cases hl : lvlE num den = 0
      · have hz2 : fnz [(0 : Int), 0] = 0 := rfl
        rw [hl, hz2] at q4
        rw [hl] at q2
        obtain ⟨num, den, up, rfl, rfl, u1', u2, u3, u4⟩ := lvlE_0 hl
        have m2 := Sure_ok fu (n + 1) x p s f num den up hfu hx2 y1 y2 y3 y4 u2 u1' (by rw [hf, hd, hl]; rfl)
        have mo := MostOf_ok fu (n + 6) p s f num den up hfu y1 y2 y3 y4 u2 (by omega) (by omega) u1'
        have mb := mostN_le p s f den up
        have w4 : IntKind.i64.wrap ((x : Int) + ((mostN p s f den up : Nat) : Int)) = ((x + mostN p s f den up : Nat) : Int) := by rw [← Int.natCast_add, i64n (by omega)]
        rw [hS] at m2
        by_cases c1 : x * s + p * f = 0
        · rw [if_pos c1] at m1
          have c1' : ((x * s + p * f : Nat) : Int) = 0 := by omega
          by_cases c2 : x + mostN p s f den up = 0
          · rw [if_pos c2] at m2
            have c2' : ((x + mostN p s f den up : Nat) : Int) = 0 := by omega
            simp only [Option.some.injEq, Prod.mk.injEq, List.cons.injEq, MV.agg.injEq, MV.int.injEq, true_and, and_true] at m1 m2
            obtain ⟨⟨rfl, rfl⟩, rfl⟩ := m1
            obtain ⟨⟨rfl, rfl⟩, rfl⟩ := m2
            simp only [drw, lvl] at *
            simp only [chaselaw2_SampleRecalls_J1_eq, chaselaw2_SampleRecalls_J2_eq, chaselaw2_SampleRecalls_J3_eq, chaselaw2_SampleRecalls_J4_eq, chaselaw2_SampleRecalls_J5_eq, chaselaw2_SampleRecalls_J6_eq, chaselaw2_SampleRecalls_J7_eq, chaselaw2_SampleRecalls_J8_eq, chaselaw2_SampleRecalls_J9_eq, chaselaw2_SampleRecalls_J10_eq, chaselaw2_SampleRecalls_J11_eq, chaselaw2_SampleRecalls_J12_eq, chaselaw2_SampleRecalls_J13_eq, chaselaw2_SampleRecalls_J14_eq, chaselaw2_SampleRecalls_J15_eq, chaselaw2_SampleRecalls_J16_eq, chaselaw2_SampleRecalls_J17_eq, chaselaw2_SampleRecalls_J18_eq, chaselaw2_SampleRecalls_J19_eq, npG_pos, npL_cons, np_agg, np_int, np_list, npLL_cons, npLL_nil, npL_nil, Bool.and_true, callE_some', rC_cons, dA_agg, unC_cons, unN_nil, dB_bool, rN_nil, dI_int, cnd_decide, cnd_not, cnd_true, cnd_false, eqM_self', eqO_self, rI_some, rB_some, sO_some', if_true, eqc2, Bool.not_true, q1, q2, q3, q4, q5, l3, mo, w1, w2, w3, w4, if_pos c1', if_pos c2']
          · rw [if_neg c2] at m2
            have c2' : ¬ ((x + mostN p s f den up : Nat) : Int) = 0 := by omega
            have l2 := Lowest_ok fu (n + 9) x (x + mostN p s f den up) hfu (by omega) (by omega) (by omega)
            simp only [Option.some.injEq, Prod.mk.injEq, List.cons.injEq, MV.agg.injEq, MV.int.injEq, true_and, and_true] at m1 m2
            obtain ⟨⟨rfl, rfl⟩, rfl⟩ := m1
            obtain ⟨⟨rfl, rfl⟩, rfl⟩ := m2
            simp only [drw, lvl] at *
            simp only [chaselaw2_SampleRecalls_J1_eq, chaselaw2_SampleRecalls_J2_eq, chaselaw2_SampleRecalls_J3_eq, chaselaw2_SampleRecalls_J4_eq, chaselaw2_SampleRecalls_J5_eq, chaselaw2_SampleRecalls_J6_eq, chaselaw2_SampleRecalls_J7_eq, chaselaw2_SampleRecalls_J8_eq, chaselaw2_SampleRecalls_J9_eq, chaselaw2_SampleRecalls_J10_eq, chaselaw2_SampleRecalls_J11_eq, chaselaw2_SampleRecalls_J12_eq, chaselaw2_SampleRecalls_J13_eq, chaselaw2_SampleRecalls_J14_eq, chaselaw2_SampleRecalls_J15_eq, chaselaw2_SampleRecalls_J16_eq, chaselaw2_SampleRecalls_J17_eq, chaselaw2_SampleRecalls_J18_eq, chaselaw2_SampleRecalls_J19_eq, npG_pos, npL_cons, np_agg, np_int, np_list, npLL_cons, npLL_nil, npL_nil, Bool.and_true, callE_some', rC_cons, dA_agg, unC_cons, unN_nil, dB_bool, rN_nil, dI_int, cnd_decide, cnd_not, cnd_true, cnd_false, eqM_self', eqO_self, rI_some, rB_some, sO_some', if_true, eqc2, Bool.not_true, q1, q2, q3, q4, q5, l2, l3, mo, w1, w2, w3, w4, if_pos c1', if_neg c2']
        · rw [if_neg c1] at m1
          have c1' : ¬ ((x * s + p * f : Nat) : Int) = 0 := by omega
          have l1 := Lowest_ok fu (n + 9) (x * s) (x * s + p * f) hfu (by omega) (by omega) (by omega)
          by_cases c2 : x + mostN p s f den up = 0
          · rw [if_pos c2] at m2
            have c2' : ((x + mostN p s f den up : Nat) : Int) = 0 := by omega
            simp only [Option.some.injEq, Prod.mk.injEq, List.cons.injEq, MV.agg.injEq, MV.int.injEq, true_and, and_true] at m1 m2
            obtain ⟨⟨rfl, rfl⟩, rfl⟩ := m1
            obtain ⟨⟨rfl, rfl⟩, rfl⟩ := m2
            simp only [drw, lvl] at *
            simp only [chaselaw2_SampleRecalls_J1_eq, chaselaw2_SampleRecalls_J2_eq, chaselaw2_SampleRecalls_J3_eq, chaselaw2_SampleRecalls_J4_eq, chaselaw2_SampleRecalls_J5_eq, chaselaw2_SampleRecalls_J6_eq, chaselaw2_SampleRecalls_J7_eq, chaselaw2_SampleRecalls_J8_eq, chaselaw2_SampleRecalls_J9_eq, chaselaw2_SampleRecalls_J10_eq, chaselaw2_SampleRecalls_J11_eq, chaselaw2_SampleRecalls_J12_eq, chaselaw2_SampleRecalls_J13_eq, chaselaw2_SampleRecalls_J14_eq, chaselaw2_SampleRecalls_J15_eq, chaselaw2_SampleRecalls_J16_eq, chaselaw2_SampleRecalls_J17_eq, chaselaw2_SampleRecalls_J18_eq, chaselaw2_SampleRecalls_J19_eq, npG_pos, npL_cons, np_agg, np_int, np_list, npLL_cons, npLL_nil, npL_nil, Bool.and_true, callE_some', rC_cons, dA_agg, unC_cons, unN_nil, dB_bool, rN_nil, dI_int, cnd_decide, cnd_not, cnd_true, cnd_false, eqM_self', eqO_self, rI_some, rB_some, sO_some', if_true, eqc2, Bool.not_true, q1, q2, q3, q4, q5, l1, l3, mo, w1, w2, w3, w4, if_neg c1', if_pos c2']
          · rw [if_neg c2] at m2
            have c2' : ¬ ((x + mostN p s f den up : Nat) : Int) = 0 := by omega
            have l2 := Lowest_ok fu (n + 9) x (x + mostN p s f den up) hfu (by omega) (by omega) (by omega)
            simp only [Option.some.injEq, Prod.mk.injEq, List.cons.injEq, MV.agg.injEq, MV.int.injEq, true_and, and_true] at m1 m2
            obtain ⟨⟨rfl, rfl⟩, rfl⟩ := m1
            obtain ⟨⟨rfl, rfl⟩, rfl⟩ := m2
            simp only [drw, lvl] at *
            simp only [chaselaw2_SampleRecalls_J1_eq, chaselaw2_SampleRecalls_J2_eq, chaselaw2_SampleRecalls_J3_eq, chaselaw2_SampleRecalls_J4_eq, chaselaw2_SampleRecalls_J5_eq, chaselaw2_SampleRecalls_J6_eq, chaselaw2_SampleRecalls_J7_eq, chaselaw2_SampleRecalls_J8_eq, chaselaw2_SampleRecalls_J9_eq, chaselaw2_SampleRecalls_J10_eq, chaselaw2_SampleRecalls_J11_eq, chaselaw2_SampleRecalls_J12_eq, chaselaw2_SampleRecalls_J13_eq, chaselaw2_SampleRecalls_J14_eq, chaselaw2_SampleRecalls_J15_eq, chaselaw2_SampleRecalls_J16_eq, chaselaw2_SampleRecalls_J17_eq, chaselaw2_SampleRecalls_J18_eq, chaselaw2_SampleRecalls_J19_eq, npG_pos, npL_cons, np_agg, np_int, np_list, npLL_cons, npLL_nil, npL_nil, Bool.and_true, callE_some', rC_cons, dA_agg, unC_cons, unN_nil, dB_bool, rN_nil, dI_int, cnd_decide, cnd_not, cnd_true, cnd_false, eqM_self', eqO_self, rI_some, rB_some, sO_some', if_true, eqc2, Bool.not_true, q1, q2, q3, q4, q5, l1, l2, l3, mo, w1, w2, w3, w4, if_neg c1', if_neg c2']
      · have h1 : lvlE num den = 1 := (lvlE_01 num den).resolve_left hl
        have hz2 : fnz [(0 : Int), 1] = 1 := rfl
        rw [h1, hz2] at q4
        rw [h1] at q2
        have m2 := Sure_bad fu (n + 6) x p s f num den 1 hfu (by rw [hf, hd, h1]; rfl) (by omega)
        rw [hS] at m2
        have z1 : ¬ ((1 : Int) = 0) := by omega
        by_cases c1 : x * s + p * f = 0
        · rw [if_pos c1] at m1
          have c1' : ((x * s + p * f : Nat) : Int) = 0 := by omega
          simp only [Option.some.injEq, Prod.mk.injEq, List.cons.injEq, MV.agg.injEq, MV.int.injEq, true_and, and_true] at m1 m2
          obtain ⟨⟨rfl, rfl⟩, rfl⟩ := m1
          obtain ⟨⟨rfl, rfl⟩, rfl⟩ := m2
          simp only [drw, lvl] at *
          simp only [chaselaw2_SampleRecalls_J1_eq, chaselaw2_SampleRecalls_J2_eq, chaselaw2_SampleRecalls_J3_eq, chaselaw2_SampleRecalls_J4_eq, chaselaw2_SampleRecalls_J5_eq, chaselaw2_SampleRecalls_J6_eq, chaselaw2_SampleRecalls_J7_eq, chaselaw2_SampleRecalls_J8_eq, chaselaw2_SampleRecalls_J9_eq, chaselaw2_SampleRecalls_J10_eq, chaselaw2_SampleRecalls_J11_eq, chaselaw2_SampleRecalls_J12_eq, chaselaw2_SampleRecalls_J13_eq, chaselaw2_SampleRecalls_J14_eq, chaselaw2_SampleRecalls_J15_eq, chaselaw2_SampleRecalls_J16_eq, chaselaw2_SampleRecalls_J17_eq, chaselaw2_SampleRecalls_J18_eq, chaselaw2_SampleRecalls_J19_eq, npG_pos, npL_cons, np_agg, np_int, np_list, npLL_cons, npLL_nil, npL_nil, Bool.and_true, callE_some', rC_cons, dA_agg, unC_cons, unN_nil, dB_bool, rN_nil, dI_int, cnd_decide, cnd_not, cnd_true, cnd_false, eqM_self', eqO_self, rI_some, rB_some, sO_some', if_true, eqc2, Bool.not_true, q1, q2, q3, q4, q5, l3, w1, w2, w3, if_pos c1', if_neg z1]
        · rw [if_neg c1] at m1
          have c1' : ¬ ((x * s + p * f : Nat) : Int) = 0 := by omega
          have l1 := Lowest_ok fu (n + 9) (x * s) (x * s + p * f) hfu (by omega) (by omega) (by omega)
          simp only [Option.some.injEq, Prod.mk.injEq, List.cons.injEq, MV.agg.injEq, MV.int.injEq, true_and, and_true] at m1 m2
          obtain ⟨⟨rfl, rfl⟩, rfl⟩ := m1
          obtain ⟨⟨rfl, rfl⟩, rfl⟩ := m2
          simp only [drw, lvl] at *
          simp only [chaselaw2_SampleRecalls_J1_eq, chaselaw2_SampleRecalls_J2_eq, chaselaw2_SampleRecalls_J3_eq, chaselaw2_SampleRecalls_J4_eq, chaselaw2_SampleRecalls_J5_eq, chaselaw2_SampleRecalls_J6_eq, chaselaw2_SampleRecalls_J7_eq, chaselaw2_SampleRecalls_J8_eq, chaselaw2_SampleRecalls_J9_eq, chaselaw2_SampleRecalls_J10_eq, chaselaw2_SampleRecalls_J11_eq, chaselaw2_SampleRecalls_J12_eq, chaselaw2_SampleRecalls_J13_eq, chaselaw2_SampleRecalls_J14_eq, chaselaw2_SampleRecalls_J15_eq, chaselaw2_SampleRecalls_J16_eq, chaselaw2_SampleRecalls_J17_eq, chaselaw2_SampleRecalls_J18_eq, chaselaw2_SampleRecalls_J19_eq, npG_pos, npL_cons, np_agg, np_int, np_list, npLL_cons, npLL_nil, npL_nil, Bool.and_true, callE_some', rC_cons, dA_agg, unC_cons, unN_nil, dB_bool, rN_nil, dI_int, cnd_decide, cnd_not, cnd_true, cnd_false, eqM_self', eqO_self, rI_some, rB_some, sO_some', if_true, eqc2, Bool.not_true, q1, q2, q3, q4, q5, l1, l3, w1, w2, w3, if_neg c1', if_neg z1]
  · have h1 : drwE p s f = 1 := (drwE_01 p s f).resolve_left hd
    have z1 : ¬ ((1 : Int) = 0) := by omega
    have ho : fnz [fndE x, 1] = 1 := by
      unfold fnz fndE
      cases inB x 0 2000 <;> rfl
    have hz2 : fnz [(1 : Int), lvlE num den] = 1 := rfl
    rw [h1] at q1
    rw [h1, ho] at q3 q4
    rw [hz2] at q4
    have m1 := Recall_bad fu (n + 6) x p s f 1 hfu (by rw [h1, ho]) (by omega)
    have m2 := Sure_bad fu (n + 6) x p s f num den 1 hfu (by rw [h1, ho]; rfl) (by omega)
    have m3 := Elusion_bad fu (n + 7) p s f 1 h1 (by omega)
    rw [hR] at m1; rw [hS] at m2; rw [hE] at m3
    simp only [Option.some.injEq, Prod.mk.injEq, List.cons.injEq, MV.agg.injEq, MV.int.injEq, true_and, and_true] at m1 m2 m3
    obtain ⟨⟨rfl, rfl⟩, rfl⟩ := m1
    obtain ⟨⟨rfl, rfl⟩, rfl⟩ := m2
    obtain ⟨⟨rfl, rfl⟩, rfl⟩ := m3
    simp only [drw, lvl] at *
    cases hx : inB x 0 2000
    · have hf : fndE x = 1 := by unfold fndE; rw [hx]; rfl
      rw [hf] at q3
      simp only [chaselaw2_SampleRecalls_J1_eq, chaselaw2_SampleRecalls_J2_eq, chaselaw2_SampleRecalls_J3_eq, chaselaw2_SampleRecalls_J4_eq, chaselaw2_SampleRecalls_J5_eq, chaselaw2_SampleRecalls_J6_eq, chaselaw2_SampleRecalls_J7_eq, chaselaw2_SampleRecalls_J8_eq, chaselaw2_SampleRecalls_J9_eq, chaselaw2_SampleRecalls_J10_eq, chaselaw2_SampleRecalls_J11_eq, chaselaw2_SampleRecalls_J12_eq, chaselaw2_SampleRecalls_J13_eq, chaselaw2_SampleRecalls_J14_eq, chaselaw2_SampleRecalls_J15_eq, chaselaw2_SampleRecalls_J16_eq, chaselaw2_SampleRecalls_J17_eq, chaselaw2_SampleRecalls_J18_eq, chaselaw2_SampleRecalls_J19_eq, npG_pos, npL_cons, np_agg, np_int, np_list, npLL_cons, npLL_nil, npL_nil, Bool.and_true, callE_some', rC_cons, dA_agg, unC_cons, unN_nil, dB_bool, rN_nil, dI_int, cnd_decide, cnd_not, cnd_true, cnd_false, eqM_self', eqO_self, rI_some, rB_some, sO_some', if_true, eqc2, Bool.not_false, q1, q2, q3, q4, q5, if_neg z1]
    · have hf : fndE x = 0 := by unfold fndE; rw [hx]; rfl
      rw [hf] at q3
      simp only [chaselaw2_SampleRecalls_J1_eq, chaselaw2_SampleRecalls_J2_eq, chaselaw2_SampleRecalls_J3_eq, chaselaw2_SampleRecalls_J4_eq, chaselaw2_SampleRecalls_J5_eq, chaselaw2_SampleRecalls_J6_eq, chaselaw2_SampleRecalls_J7_eq, chaselaw2_SampleRecalls_J8_eq, chaselaw2_SampleRecalls_J9_eq, chaselaw2_SampleRecalls_J10_eq, chaselaw2_SampleRecalls_J11_eq, chaselaw2_SampleRecalls_J12_eq, chaselaw2_SampleRecalls_J13_eq, chaselaw2_SampleRecalls_J14_eq, chaselaw2_SampleRecalls_J15_eq, chaselaw2_SampleRecalls_J16_eq, chaselaw2_SampleRecalls_J17_eq, chaselaw2_SampleRecalls_J18_eq, chaselaw2_SampleRecalls_J19_eq, npG_pos, npL_cons, np_agg, np_int, np_list, npLL_cons, npLL_nil, npL_nil, Bool.and_true, callE_some', rC_cons, dA_agg, unC_cons, unN_nil, dB_bool, rN_nil, dI_int, cnd_decide, cnd_not, cnd_true, cnd_false, eqM_self', eqO_self, rI_some, rB_some, sO_some', if_true, eqc2, Bool.not_true, q1, q2, q3, q4, q5, if_neg z1]

theorem SampleRecalls_ok (fu n : Nat) (ls : List Int) (hfu : 1000000 ≤ fu) :
    ev fu (n + 11) 7 [.list (ls.map i1)] [] = some ([(none, .bool true)], []) := by
  obtain ⟨x, hx, h1⟩ := Pick_okL fu (n + 7) ls 0 [[.int .i64 0], [.int .i64 0], [.int .i64 1], [.int .i64 5], [.int .i64 30], [.int .i64 2000], [.int .i64 (-1)], [.int .i64 2001]] [0, 0, 1, 5, 30, 2000, -1, 2001] rfl (by omega) (by omega) (by simp) (by simp)
  obtain ⟨p, s, f, at2, ha, hb, h2⟩ := Drawn_ok fu (n + 5) ls (0 + 1) (by omega) (by omega)
  obtain ⟨num, den, h3⟩ := Level_ok fu (n + 7) ls at2 (by omega) (by omega)
  have hR : ∃ a0 a1 e1, ev fu (n + 10) 37 [.int .i64 x, .agg (drw p s f)] [] = some ([(none, .agg [.int .i64 a0, .int .i64 a1]), (none, .int .i64 e1)], []) := by
    by_cases h0 : fnz [fndE x, drwE p s f] = 0
    · obtain ⟨hf, hd⟩ := fnz_0 h0
      obtain ⟨p, s, f, rfl, rfl, rfl, y1, y2, y3, y4, y5⟩ := drwE_0 hd
      have hx3 : inB x 0 2000 = true := by
        unfold fndE at hf
        by_cases hq : inB x 0 2000 = true
        · exact hq
        · rw [if_neg hq] at hf; cases hf
      obtain ⟨x, rfl, hx2⟩ : ∃ q : Nat, x = q ∧ q ≤ 2000 := ⟨x.toNat, by simp [inB] at hx3; omega, by simp [inB] at hx3; omega⟩
      have m1 := Recall_ok fu (n + 6) x p s f hfu hx2 y1 y2 (by omega) h0
      by_cases c1 : x * s + p * f = 0
      · rw [if_pos c1] at m1; exact ⟨_, _, _, m1⟩
      · rw [if_neg c1] at m1; exact ⟨_, _, _, m1⟩
    · exact ⟨_, _, _, Recall_bad fu (n + 6) x p s f _ hfu rfl h0⟩
  have hS : ∃ b0 b1 e2, ev fu (n + 10) 38 [.int .i64 x, .agg (drw p s f), .agg (lvl num den)] [] = some ([(none, .agg [.int .i64 b0, .int .i64 b1]), (none, .int .i64 e2)], []) := by
    by_cases h0 : fnz [fnz [fndE x, drwE p s f], lvlE num den] = 0
    · obtain ⟨h0', hl⟩ := fnz_0 h0
      obtain ⟨hf, hd⟩ := fnz_0 h0'
      obtain ⟨p, s, f, rfl, rfl, rfl, y1, y2, y3, y4, y5⟩ := drwE_0 hd
      obtain ⟨num, den, up, rfl, rfl, u1', u2, u3, u4⟩ := lvlE_0 hl
      have hx3 : inB x 0 2000 = true := by
        unfold fndE at hf
        by_cases hq : inB x 0 2000 = true
        · exact hq
        · rw [if_neg hq] at hf; cases hf
      obtain ⟨x, rfl, hx2⟩ : ∃ q : Nat, x = q ∧ q ≤ 2000 := ⟨x.toNat, by simp [inB] at hx3; omega, by simp [inB] at hx3; omega⟩
      have m2 := Sure_ok fu (n + 1) x p s f num den up hfu hx2 y1 y2 y3 y4 u2 u1' h0
      by_cases c1 : x + mostN p s f den up = 0
      · rw [if_pos c1] at m2; exact ⟨_, _, _, m2⟩
      · rw [if_neg c1] at m2; exact ⟨_, _, _, m2⟩
    · exact ⟨_, _, _, Sure_bad fu (n + 6) x p s f num den _ hfu rfl h0⟩
  have hE : ∃ c0 c1 e3, ev fu (n + 10) 39 [.agg (drw p s f)] [] = some ([(none, .agg [.int .i64 c0, .int .i64 c1]), (none, .int .i64 e3)], []) := by
    by_cases hd : drwE p s f = 0
    · obtain ⟨p, s, f, rfl, rfl, rfl, y1, y2, y3, y4, y5⟩ := drwE_0 hd
      exact ⟨_, _, _, Elusion_ok fu (n + 7) p s f hfu y2 y5 (by omega) hd⟩
    · exact ⟨_, _, _, Elusion_bad fu (n + 7) p s f _ rfl hd⟩
  obtain ⟨a0, a1, e1, hR⟩ := hR
  obtain ⟨b0, b1, e2, hS⟩ := hS
  obtain ⟨c0, c1, e3, hE⟩ := hE
  have hJ := fun at_ => Recalls_J1 fu n x p s f num den e1 e2 e3 a0 a1 b0 b1 c0 c1 (ls.map i1) at_ hfu hR hS hE
  rw [chaselaw2_SampleRecalls_eq]
  unfold sb at h1 h2 h3
  simp only [drw, lvl] at h2 h3 hR hS hE
  simp only [npG_pos, npL_cons, np_int, np_list, npLL_i1, npLL_cons, npLL_nil, npL_nil, Bool.and_true, h1, h2, h3, hR, hS, hE, callE_some', rC_cons, dA_agg, unC_cons, unN_nil, dB_bool, rN_nil, bX_cons, bC_cons, dL_list, dI_int, bN_nil, cnd_decide]
  by_cases k1 : x < 0
  · have e : inB x 0 2000 = false := by simp [inB]; omega
    rw [e] at hJ
    rw [if_pos k1]; exact (congrArg (npO 0) (hJ _)).trans (npO_0 (by simp))
  · have e : decide ((2000 : Int) < x) = !(inB x 0 2000) := by
      by_cases k2 : (2000 : Int) < x
      · rw [decide_eq_true k2]; simp [inB]; omega
      · rw [decide_eq_false k2]; simp [inB]; omega
    rw [if_neg k1, e]; exact (congrArg (npO 0) (hJ _)).trans (npO_0 (by simp))
theorem SampleRecalls_spec (ls : List Int) : Spec Try.prog 7 [ints ls] [(none, .bool true)] :=
  law_spec (SampleRecalls_ok 1000000 0 ls (Nat.le_refl _))

end Go.Pv

