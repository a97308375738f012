/- The law SampleEnough. -/
import Derived.Test.YtoakchnegkmepaaSA
set_option linter.unusedSimpArgs false
set_option linter.unusedVariables false
set_option maxRecDepth 100000
namespace Go.Pv
open Go Go.Proofs

/-- The least sample from i on with which not more is missed. -/
def enough (p den up : Nat) (a : Int) (i : Nat) : Nat → Option Nat
  | 0 => none
  | m + 1 => if i ≤ min 60 p then (if ((mostN p i 0 den up : Nat) : Int) ≤ a then some i else enough p den up a (i + 1) m) else none
theorem mm2_minN (p : Nat) : mm2 false 60 (p : Int) = ((min 60 p : Nat) : Int) := by rw [mm2_min]; omega
theorem mm2_minN2 (p : Nat) : mm2 false (p : Int) 60 = ((min 60 p : Nat) : Int) := by rw [mm2_min]; omega

theorem Enough_L1 (fu n p num den up : Nat) (a : Int) (hfu : 1000000 ≤ fu) (hp : p ≤ 2000) (hden : den ≤ 1000) (hup : num + up = den) : ∀ (m i k1 : Nat), 1 ≤ i → min 60 p + 1 ≤ i + m → m < k1 → i ≤ 100 →
    sample_Enough_L1 fu (n + 8) k1 p a (lvl num den) i = some (match enough p den up a i m with
      | some j => [(none, .int .i64 (j : Nat)), (none, .int .i64 0)]
      | none => [(none, .int .i64 0), (none, .int .i64 16)], [])
  | m, i, 0, h1, h2, hk, h3 => by omega
  | 0, i, k1 + 1, h1, h2, hk, h3 => by
    rw [sample_Enough_L1_eq, cnd_decide, mm2_minN, if_neg (by omega)]; rfl
  | m + 1, i, k1 + 1, h1, h2, hk, h3 => by
    rw [sample_Enough_L1_eq, cnd_decide, mm2_minN, enough]
    by_cases hi : i ≤ min 60 p
    · have hm := most_ok fu n p i 0 num den up hfu hp (by omega) (by omega) (by omega) hden hup
      have e0 : ((0 : Nat) : Int) = 0 := rfl
      rw [e0] at hm
      rw [if_pos (by omega), if_pos hi]
      simp only [drw, lvl, gd2, take2] at hm ⊢
      rw [npG_pos (by simp), hm, rI_some, cnd_decide]
      by_cases h : ((mostN p i 0 den up : Nat) : Int) ≤ a
      · rw [if_pos h, if_pos h]
      · rw [if_neg h, if_neg h, i64s (by omega)]
        exact Enough_L1 fu n p num den up a hfu hp hden hup m (i + 1) k1 (by omega) (by omega) (by omega) (by omega)
    · rw [if_neg (by omega), if_neg hi]
theorem EnoughOf_L1 (fu n p num den up : Nat) (a : Int) (hfu : 1000000 ≤ fu) (hp : p ≤ 2000) (hden : den ≤ 1000) (hden0 : 0 < den) (hup0 : 0 < up) (hup : num + up = den) : ∀ (m i k1 : Nat), 1 ≤ i → min 60 p + 1 ≤ i + m → m < k1 → i ≤ 100 →
    chaseref2_EnoughOf_L1 fu (n + 4) k1 p a (lvl num den) i = some (match enough p den up a i m with
      | some j => [(none, .int .i64 (j : Nat)), (none, .bool true)]
      | none => [(none, .int .i64 0), (none, .bool false)], [])
  | m, i, 0, h1, h2, hk, h3 => by omega
  | 0, i, k1 + 1, h1, h2, hk, h3 => by
    rw [chaseref2_EnoughOf_L1_eq, cnd_decide, mm2_minN2, if_neg (by omega)]; rfl
  | m + 1, i, k1 + 1, h1, h2, hk, h3 => by
    rw [chaseref2_EnoughOf_L1_eq, cnd_decide, mm2_minN2, enough]
    by_cases hi : i ≤ min 60 p
    · have hm := MostOf_ok fu n p i 0 num den up hfu hp (by omega) (by omega) (by omega) hden hden0 hup0 hup
      have e0 : ((0 : Nat) : Int) = 0 := rfl
      rw [e0] at hm
      rw [if_pos (by omega), if_pos hi]
      simp only [drw, lvl, gd2, take2] at hm ⊢
      rw [npG_pos (by simp), hm, rI_some, cnd_decide]
      by_cases h : ((mostN p i 0 den up : Nat) : Int) ≤ a
      · rw [if_pos h, if_pos h]
      · rw [if_neg h, if_neg h, i64s (by omega)]
        exact EnoughOf_L1 fu n p num den up a hfu hp hden hden0 hup0 hup m (i + 1) k1 (by omega) (by omega) (by omega) (by omega)
    · rw [if_neg (by omega), if_neg hi]
theorem EnoughOf_ok (fu n p num den up : Nat) (a : Int) (hfu : 1000000 ≤ fu) (hp : p ≤ 2000) (hden : den ≤ 1000) (hden0 : 0 < den) (hup0 : 0 < up) (hup : num + up = den) :
    ev fu (n + 5) 27 [.int .i64 p, .int .i64 a, .agg (lvl num den)] [] = some (match enough p den up a 1 60 with
      | some j => [(none, .int .i64 (j : Nat)), (none, .bool true)]
      | none => [(none, .int .i64 0), (none, .bool false)], []) := by
  have h := EnoughOf_L1 fu n p num den up a hfu hp hden hden0 hup0 hup 60 1 fu (by omega) (by omega) (by omega) (by omega)
  have e1 : ((1 : Nat) : Int) = 1 := rfl
  rw [e1] at h
  rw [chaseref2_EnoughOf_eq, h]
  generalize enough p den up a 1 60 = e
  cases e <;> exact npO_0 (by simp)

def popE (p a : Int) : Int := if inB p 1 2000 && inB a 0 p then 0 else 1
theorem Enough_bad (fu n : Nat) (p a num den e : Int) (hfu : 1000000 ≤ fu) (he : fnz [popE p a, lvlE num den] = e) (h0 : e ≠ 0) :
    ev fu (n + 3) 26 [.int .i64 p, .int .i64 a, .agg (lvl num den)] [] = some ([(none, .int .i64 0), (none, .int .i64 e)], []) := by
  have h2 := CheckLevel_ok fu n num den
  have h3 := First_ok fu (n + 1) [popE p a, lvlE num den] hfu (by simp)
  rw [he] at h3
  simp only [lvl, List.map_cons, List.map_nil, i1] at h2 h3
  rw [sample_Enough_eq]
  simp only [lvl, gd2, take2, eqM_self', In_ok, rB_some, cnd_not, When_ok, rI_some]
  unfold popE at h3
  cases hb1 : inB p 1 2000
  · rw [hb1] at h3
    simp only [Bool.false_and, Bool.false_eq_true, if_false] at h3
    rw [cnd_false]
    simp only [if_true, npG_pos, npL_cons, np_agg, np_int, np_list, npLL_cons, npLL_nil, npL_nil, Bool.and_true, h2, h3, rI_some, cnd_decide, if_neg h0]
    exact npO_0 (by simp)
  · rw [hb1] at h3
    simp only [Bool.true_and] at h3
    rw [cnd_true]
    cases hb2 : inB a 0 p <;> rw [hb2] at h3 <;>
    · simp only [Bool.not_true, Bool.not_false, Bool.false_eq_true, if_true, if_false, npG_pos, npL_cons, np_agg, np_int, np_list, npLL_cons, npLL_nil, npL_nil, Bool.and_true, h2, rI_some, cnd_decide] at h3 ⊢
      simp only [h3, rI_some, cnd_decide, if_neg h0]
      exact npO_0 (by simp)
theorem Enough_ok (fu n p num den up : Nat) (a : Int) (hfu : 1000000 ≤ fu) (hp : p ≤ 2000) (hden : den ≤ 1000) (hup : num + up = den) (he : fnz [popE p a, lvlE num den] = 0) :
    ev fu (n + 9) 26 [.int .i64 p, .int .i64 a, .agg (lvl num den)] [] = some (match enough p den up a 1 60 with
      | some j => [(none, .int .i64 (j : Nat)), (none, .int .i64 0)]
      | none => [(none, .int .i64 0), (none, .int .i64 16)], []) := by
  have h2 := CheckLevel_ok fu (n + 6) num den
  have h3 := First_ok fu (n + 7) [popE p a, lvlE num den] hfu (by simp)
  have hp0 := (fnz_0 he).1
  rw [he] at h3
  have h := Enough_L1 fu n p num den up a hfu hp hden hup 60 1 fu (by omega) (by omega) (by omega) (by omega)
  have e1 : ((1 : Nat) : Int) = 1 := rfl
  rw [e1] at h
  rw [hp0] at h3
  have hb : inB p 1 2000 = true ∧ inB a 0 p = true := by
    unfold popE at hp0
    by_cases hx : (inB p 1 2000 && inB a 0 p) = true
    · simpa using hx
    · rw [if_neg hx] at hp0; cases hp0
  simp only [lvl, List.map_cons, List.map_nil, i1] at h2 h3 h
  rw [sample_Enough_eq]
  simp only [lvl, gd2, take2, eqM_self', In_ok, rB_some, cnd_not, When_ok, rI_some, hb.1, hb.2, cnd_true, Bool.not_true, Bool.false_eq_true, if_false, npG_pos, npL_cons, np_agg, np_int, np_list, npLL_cons, npLL_nil, npL_nil, Bool.and_true, h2, h3, cnd_decide, if_true, h]
  generalize enough p den up a 1 60 = e
  cases e <;> exact npO_0 (by simp)

theorem SampleEnough_J1 (fu n : Nat) (p a num den : Int) (x y : Int) (l : List (List MV)) (at_ : Int) (hfu : 1000000 ≤ fu)
    (h : ∃ r : Res, ev fu (n + 10) 26 [.int .i64 p, .int .i64 a, .agg (lvl num den)] [] = some (r, []) ∧ r = [(none, .int .i64 x), (none, .int .i64 y)]) :
    chaselaw2_SampleEnough_J1 fu (n + 10) p a x y 0 (!(inB p 1 2000 && inB a 0 p)) l at_ num den = some ([(none, .bool true)], []) := by
  obtain ⟨r, h, rfl⟩ := h
  have h4 := LevelFault_ok fu (n + 8) num den
  have h7 := wrongOr_ok fu (n + 9) [popE p a, lvlE num den] hfu (by simp)
  have h8 := drawn_ok fu n hfu
  simp only [List.map_cons, List.map_nil, i1, lvl] at h7 h4
  generalize he : fnz [popE p a, lvlE num den] = e at h7
  by_cases h0 : e = 0
  · subst h0
    obtain ⟨hq, hl⟩ := fnz_0 he
    have hb : inB p 1 2000 = true ∧ inB a 0 p = true := by
      unfold popE at hq
      by_cases hx : (inB p 1 2000 && inB a 0 p) = true
      · simpa using hx
      · rw [if_neg hx] at hq; cases hq
    obtain ⟨num, den, up, rfl, rfl, b1, b2, b3, b4⟩ := lvlE_0 hl
    obtain ⟨q, rfl, hq2⟩ : ∃ q : Nat, p = q ∧ q ≤ 2000 := ⟨p.toNat, by have := hb.1; simp [inB] at this; omega, by have := hb.1; simp [inB] at this; omega⟩
    have m1 := Enough_ok fu (n + 1) q num den up a hfu hq2 b2 b1 he
    have m2 := EnoughOf_ok fu (n + 5) q num den up a hfu hq2 b2 (by omega) (by omega) b1
    rw [hq] at h7
    rw [chaselaw2_SampleEnough_J1_eq, hb.1, hb.2]
    simp only [lvl] at *
    rw [h] at m1
    generalize enough q den up a 1 60 = r at *
    cases r <;>
    · simp only [Option.some.injEq, Prod.mk.injEq, List.cons.injEq, MV.int.injEq, true_and, and_true] at m1
      simp only [Bool.and_self, Bool.not_true, cnd_false, h4, h7, rI_some, npG_pos, npL_cons, np_agg, np_int, np_list, npLL_cons, npLL_nil, npL_nil, Bool.and_true, cnd_not, cnd_decide, if_true, m2, callE_some', rC_cons, dI_int, dB_bool, rN_nil, cnd_true, m1.1, m1.2, h8, rB_some]
  · have m1 := Enough_bad fu (n + 7) p a num den e hfu he h0
    rw [h] at m1
    simp only [Option.some.injEq, Prod.mk.injEq, List.cons.injEq, MV.int.injEq, true_and, and_true] at m1
    rw [chaselaw2_SampleEnough_J1_eq]
    unfold popE at h7
    cases hb : (inB p 1 2000 && inB a 0 p)
    · rw [hb] at h7
      simp only [Bool.false_eq_true, if_false] at h7
      simp only [Bool.not_false, cnd_true, h4, h7, rI_some, npG_pos, npL_cons, np_agg, np_int, np_list, npLL_cons, npLL_nil, npL_nil, Bool.and_true, cnd_not, cnd_decide, if_neg h0, if_true, m1.1, m1.2, h8, rB_some]
    · rw [hb] at h7
      simp only [if_true] at h7
      simp only [Bool.not_true, cnd_false, h4, h7, rI_some, npG_pos, npL_cons, np_agg, np_int, np_list, npLL_cons, npLL_nil, npL_nil, Bool.and_true, cnd_not, cnd_decide, if_neg h0, if_true, m1.1, m1.2, h8, rB_some]

theorem SampleEnough_ok (fu n : Nat) (ls : List Int) (hfu : 1000000 ≤ fu) :
    ev fu (n + 11) 4 [.list (ls.map i1)] [] = some ([(none, .bool true)], []) := by
  obtain ⟨p, hp, h1⟩ := Pick_okL fu (n + 7) ls 0 [[.int .i64 1], [.int .i64 2], [.int .i64 5], [.int .i64 10], [.int .i64 20], [.int .i64 40], [.int .i64 0], [.int .i64 2001]] [1, 2, 5, 10, 20, 40, 0, 2001] rfl (by omega) (by omega) (by simp) (by simp)
  have hp1 : 0 ≤ p ∧ p ≤ 2001 := by simp at hp; omega
  obtain ⟨a, ha, h2⟩ := Pick_okL fu (n + 7) ls (0 + 1) [[.int .i64 0], [.int .i64 1], [.int .i64 2], [.int .i64 5], [.int .i64 10], [.int .i64 p], [.int .i64 (-1)], [.int .i64 (p + 1)]] [0, 1, 2, 5, 10, p, -1, p + 1] rfl (by omega) (by omega) (by simp) (by simp)
  obtain ⟨num, den, h3⟩ := Level_ok fu (n + 7) ls (0 + 1 + 1) (by omega) (by omega)
  have e1 : IntKind.i64.wrap (p + 1) = p + 1 := w64 (by omega) (by omega)
  have hE : ∃ x y, ev fu (n + 10) 26 [.int .i64 p, .int .i64 a, .agg (lvl num den)] [] = some ([(none, .int .i64 x), (none, .int .i64 y)], []) := by
    by_cases h0 : fnz [popE p a, lvlE num den] = 0
    · obtain ⟨hq, hl⟩ := fnz_0 h0
      obtain ⟨num, den, up, rfl, rfl, b1, b2, b3, b4⟩ := lvlE_0 hl
      have hb : inB p 1 2000 = true := by
        unfold popE at hq
        by_cases hx : (inB p 1 2000 && inB a 0 p) = true
        · simp only [Bool.and_eq_true] at hx; exact hx.1
        · rw [if_neg hx] at hq; cases hq
      obtain ⟨q, rfl, hq2⟩ : ∃ q : Nat, p = q ∧ q ≤ 2000 := ⟨p.toNat, by simp [inB] at hb; omega, by simp [inB] at hb; omega⟩
      have m1 := Enough_ok fu (n + 1) q num den up a hfu hq2 b2 b1 h0
      cases hr : enough q den up a 1 60 with
      | none => rw [hr] at m1; exact ⟨_, _, m1⟩
      | some j => rw [hr] at m1; exact ⟨_, _, m1⟩
    · exact ⟨_, _, Enough_bad fu (n + 7) p a num den _ hfu rfl h0⟩
  obtain ⟨x, y, hE⟩ := hE
  have hJ := SampleEnough_J1 fu n p a num den x y (ls.map i1) (0 + 1 + 1 + 1) hfu ⟨_, hE, rfl⟩
  rw [chaselaw2_SampleEnough_eq]
  unfold sb at h1 h2 h3
  simp only [lvl] at h3 hE
  simp only [npG_pos, npL_cons, np_int, np_list, npLL_i1, npLL_cons, npLL_nil, npL_nil, Bool.and_true, h1, h2, h3, hE, e1, callE_some', rC_cons, dA_agg, unC_cons, unN_nil, dB_bool, rN_nil, bX_cons, bC_cons, dL_list, dI_int, bN_nil, cnd_decide]
  have hv : ∀ b : Bool, b = (!(inB p 1 2000 && inB a 0 p)) → npO 0 (chaselaw2_SampleEnough_J1 fu (n + 10) p a x y 0 b (ls.map i1) (0 + 1 + 1 + 1) num den) = some ([(none, .bool true)], []) := by
    intro b hb; rw [hb, hJ]; exact npO_0 (by simp)
  by_cases c1 : p < 1
  · rw [if_pos c1]; exact hv _ (by simp [inB]; omega)
  · rw [if_neg c1]
    by_cases c2 : 2000 < p
    · rw [if_pos c2]; exact hv _ (by simp [inB]; omega)
    · rw [if_neg c2]
      by_cases c3 : a < 0
      · rw [if_pos c3]; exact hv _ (by simp [inB]; omega)
      · rw [if_neg c3]
        refine hv _ ?_
        have i1 : inB p 1 2000 = true := by simp [inB]; omega
        rw [i1, Bool.true_and]
        by_cases c4 : p < a
        · rw [decide_eq_true c4]; simp [inB]; omega
        · rw [decide_eq_false c4]; simp [inB]; omega
theorem SampleEnough_spec (ls : List Int) : Spec Try.prog 4 [ints ls] [(none, .bool true)] :=
  law_spec (SampleEnough_ok 1000000 0 ls (Nat.le_refl _))

end Go.Pv

