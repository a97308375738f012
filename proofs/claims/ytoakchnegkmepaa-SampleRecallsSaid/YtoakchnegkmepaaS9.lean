/- The law SampleMosts. -/
import Derived.Test.YtoakchnegkmepaaS8
set_option linter.unusedSimpArgs false
set_option linter.unusedVariables false
set_option maxRecDepth 100000
namespace Go.Pv
open Go Go.Proofs

theorem fnz_ne {d l e : Int} (h : fnz [d, l] = e) (h0 : e ≠ 0) : ¬ (d = 0 ∧ l = 0) := by
  intro h2; apply h0; rw [← h, h2.1, h2.2]; rfl
theorem fnz_0 {d l : Int} (h : fnz [d, l] = 0) : d = 0 ∧ l = 0 := by
  unfold fnz at h
  by_cases hd : d = 0
  · rw [if_pos hd] at h; unfold fnz at h
    by_cases hl : l = 0
    · exact ⟨hd, hl⟩
    · rw [if_neg hl] at h; exact absurd h hl
  · rw [if_neg hd] at h; exact absurd h hd

theorem SampleMosts_ok (fu n : Nat) (ls : List Int) (hfu : 1000000 ≤ fu) :
    ev fu (n + 11) 3 [.list (ls.map i1)] [] = some ([(none, .bool true)], []) := by
  obtain ⟨p, s, f, at2, ha, hb, h1⟩ := Drawn_ok fu (n + 5) ls 0 (by omega) (by omega)
  obtain ⟨num, den, h2⟩ := Level_ok fu (n + 7) ls at2 (by omega) (by omega)
  have h3 := CheckLevel_ok fu (n + 8) num den
  have h4 := LevelFault_ok fu (n + 8) num den
  have h5 := CheckDrawn_ok fu (n + 8) p s f
  have h6 := DrawnFault_ok fu (n + 8) p s f
  have h7 := wrongOr_ok fu (n + 9) [drwE p s f, lvlE num den] hfu (by simp)
  have h8 := drawn_ok fu n hfu
  simp only [List.map_cons, List.map_nil, i1] at h7
  rw [chaselaw2_SampleMosts_eq]
  generalize he : fnz [drwE p s f, lvlE num den] = e at *
  by_cases h0 : e = 0
  · subst h0
    obtain ⟨hd, hl⟩ := fnz_0 he
    obtain ⟨p, s, f, rfl, rfl, rfl, a1, a2, a3, a4, a5⟩ := drwE_0 hd
    obtain ⟨num, den, up, rfl, rfl, b1, b2, b3, b4⟩ := lvlE_0 hl
    have m1 := Most_ok fu (n + 1) p s f num den up hfu a1 a2 a3 a4 b2 b1 he
    have m2 := Fewest_ok fu (n + 2) p s f num den up hfu a1 a2 a3 a4 b2 b1 he
    have m3 := MostOf_ok fu (n + 6) p s f num den up hfu a1 a2 a3 a4 b2 (by omega) (by omega) b1
    have m4 := FewestOf_ok fu (n + 6) p s f num den up hfu a1 a2 a3 a4 b2 (by omega) (by omega) b1
    unfold sb at h1 h2
    simp only [drw, lvl] at *
    simp only [npG_pos, npL_cons, np_int, np_list, npLL_i1, npLL_cons, npLL_nil, npL_nil, Bool.and_true, h1, h2, h3, h4, h5, h6, h7, h8, m1, m2, m3, m4, callE_some', rC_cons, dA_agg, unC_cons, unN_nil, dB_bool, rN_nil, bX_cons, bC_cons, dL_list, dI_int, bN_nil, eqM_self', rI_some, rB_some, cnd_not, cnd_decide, decide_true, if_true]
    exact npO_0 (by simp)
  · have m1 := Most_bad fu (n + 6) p s f num den e hfu he h0
    have m2 := Fewest_bad fu (n + 6) p s f num den e hfu he h0
    unfold sb at h1 h2
    simp only [drw, lvl] at *
    simp only [npG_pos, npL_cons, np_int, np_list, npLL_i1, npLL_cons, npLL_nil, npL_nil, Bool.and_true, h1, h2, h3, h4, h5, h6, h7, h8, m1, m2, callE_some', rC_cons, dA_agg, unC_cons, unN_nil, dB_bool, rN_nil, bX_cons, bC_cons, dL_list, dI_int, bN_nil, eqM_self', rI_some, rB_some, cnd_not, cnd_decide, decide_true, if_true, if_neg h0]
    exact npO_0 (by simp)

end Go.Pv

