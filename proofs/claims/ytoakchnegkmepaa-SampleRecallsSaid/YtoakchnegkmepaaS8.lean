/- What the streams draw for samples; the laws. -/
import Derived.Test.YtoakchnegkmepaaS7
set_option linter.unusedSimpArgs false
set_option linter.unusedVariables false
set_option maxRecDepth 100000
namespace Go.Pv
open Go Go.Proofs

theorem odd10_ok (fu n : Nat) (ls : List Int) (at_ lo hi : Int) (h0 : 0 ≤ at_) (h1 : at_ < 4611686018427387000) (hl : lo ≤ hi) (hb0 : -1000000000 ≤ lo) (hb1 : hi ≤ 1000000000) :
    ∃ v, ev fu (n + 4) 67 [.ptr 0 0, .int .i64 lo, .int .i64 hi] (sb ls at_) = some ([(none, .int .i64 v)], sb ls (at_ + 1 + 1)) := by
  obtain ⟨b, hf⟩ := Flip_ok fu n ls at_ 12 h0 (by omega)
  have e1 : IntKind.i64.wrap (lo - 1) = lo - 1 := w64 (by omega) (by omega)
  have e2 : IntKind.i64.wrap (hi + 1) = hi + 1 := w64 (by omega) (by omega)
  unfold sb at *
  rw [chasemake_Stream_odd10_eq, npG_pos (by simp), hf]
  simp only [callE_some', rC_cons, dB_bool, rN_nil, bX_cons, bC_cons, dL_list, dI_int, bN_nil, e1, e2]
  cases b
  · obtain ⟨v, hv, h⟩ := Range_ok fu n ls (at_ + 1) lo hi (by omega) (by omega) hl (by omega) (by omega)
    unfold sb at *
    refine ⟨v, ?_⟩
    rw [cnd_false, npG_pos (by simp), h]
    simp only [callE_some', rC_cons, dB_bool, rN_nil, bX_cons, bC_cons, dL_list, dI_int, bN_nil]
    exact npO_sb rfl
  · obtain ⟨v, hv, h⟩ := Pick_okL fu n ls (at_ + 1) [[.int .i64 (lo - 1)], [.int .i64 (hi + 1)], [.int .i64 lo], [.int .i64 hi], [.int .i64 (-1099511627776)], [.int .i64 1099511627776]] [lo - 1, hi + 1, lo, hi, -1099511627776, 1099511627776] rfl (by omega) (by omega) (by simp) (by simp)
    unfold sb at *
    refine ⟨v, ?_⟩
    rw [cnd_true, npG_pos (by simp), h]
    simp only [callE_some', rC_cons, dB_bool, rN_nil, bX_cons, bC_cons, dL_list, dI_int, bN_nil]
    exact npO_sb rfl

theorem npO_sbL {l : List MV} {ls : List Int} {a : Int} (h : npL l = true) : npO 1 (some ([(none, .agg l)], [some [.sh (.list (ls.map i1)), .sh (.int .i64 a)]])) = some ([(none, .agg l)], sb ls a) := npO_sb (by simp [h])

theorem Level_ok (fu n : Nat) (ls : List Int) (at_ : Int) (h0 : 0 ≤ at_) (h1 : at_ < 4611686018427387000) :
    ∃ p q, ev fu (n + 3) 14 [.ptr 0 0] (sb ls at_) = some ([(none, .agg (lvl p q))], sb ls (at_ + 1)) := by
  obtain ⟨v, hv, h⟩ := Next_ok fu n ls at_ 9 h0 (by omega)
  have hv2 := hv (by omega) (by omega)
  let tb : List (Int × Int) := [(95, 100), (9, 10), (1, 2), (1, 3), (999, 1000), (19, 20), (0, 5), (5, 5), (1, 1001)]
  have hi : v.toNat < tb.length := by show v.toNat < 9; omega
  refine ⟨tb[v.toNat].1, tb[v.toNat].2, ?_⟩
  have he := map_get (fun x : Int × Int => lvl x.1 x.2) hi
  unfold sb at *
  rw [chasemake_Stream_Level_eq, npG_pos (by simp), h]
  simp only [callE_some', rC_cons, dB_bool, rN_nil, bX_cons, bC_cons, dL_list, dI_int, bN_nil]
  rw [ixG_pos (by omega) (by show v.toNat < 9; omega)]
  have e : ([[.int .i64 (95 : Int), .int .i64 (100 : Int)], [.int .i64 (9 : Int), .int .i64 (10 : Int)], [.int .i64 (1 : Int), .int .i64 (2 : Int)], [.int .i64 (1 : Int), .int .i64 (3 : Int)], [.int .i64 (999 : Int), .int .i64 (1000 : Int)], [.int .i64 (19 : Int), .int .i64 (20 : Int)], [.int .i64 (0 : Int), .int .i64 (5 : Int)], [.int .i64 (5 : Int), .int .i64 (5 : Int)], [.int .i64 (1 : Int), .int .i64 (1001 : Int)]] : List (List MV)) = tb.map fun x : Int × Int => lvl x.1 x.2 := rfl
  rw [e, rdN_get he]
  simp only [lvl, gd2, take2, unC_cons, dI_int, unN_nil]
  exact npO_sbL (by simp)

theorem mm2_min (a b : Int) : mm2 false a b = min a b := by unfold mm2; simp only [if_false, Bool.false_eq_true]; omega

theorem Drawn_ok (fu n : Nat) (ls : List Int) (at_ : Int) (h0 : 0 ≤ at_) (h1 : at_ < 4611686018427380000) :
    ∃ p s f at2, at_ ≤ at2 ∧ at2 ≤ at_ + 100 ∧ ev fu (n + 5) 13 [.ptr 0 0] (sb ls at_) = some ([(none, .agg (drw p s f))], sb ls at2) := by
  obtain ⟨r1, hr1, h1'⟩ := Range_ok fu (n + 1) ls at_ 1 60 h0 (by omega) (by omega) (by omega) (by omega)
  obtain ⟨p, hp, h2⟩ := Pick_okL fu (n + 1) ls (at_ + 1) [[.int .i64 1], [.int .i64 2], [.int .i64 5], [.int .i64 10], [.int .i64 30], [.int .i64 100], [.int .i64 2000], [.int .i64 r1]] [1, 2, 5, 10, 30, 100, 2000, r1] rfl (by omega) (by omega) (by simp) (by simp)
  have hp1 : 1 ≤ p ∧ p ≤ 2000 := by simp at hp; omega
  obtain ⟨q, hq, h3⟩ := Pick_okL fu (n + 1) ls (at_ + 1 + 1) [[.int .i64 3], [.int .i64 10], [.int .i64 60]] [3, 10, 60] rfl (by omega) (by omega) (by simp) (by simp)
  have hq1 : 1 ≤ q ∧ q ≤ 60 := by simp at hq; omega
  obtain ⟨s, hs, h4⟩ := Range_ok fu (n + 1) ls (at_ + 1 + 1 + 1) 1 (min p q) (by omega) (by omega) (by omega) (by omega) (by omega)
  obtain ⟨f1, hf1, h5⟩ := Range_ok fu (n + 1) ls (at_ + 1 + 1 + 1 + 1) 0 s (by omega) (by omega) (by omega) (by omega) (by omega)
  obtain ⟨f2, hf2, h6⟩ := Range_ok fu (n + 1) ls (at_ + 1 + 1 + 1 + 1 + 1) 0 (min s 3) (by omega) (by omega) (by omega) (by omega) (by omega)
  obtain ⟨f, hf, h7⟩ := Pick_okL fu (n + 1) ls (at_ + 1 + 1 + 1 + 1 + 1 + 1) [[.int .i64 0], [.int .i64 s], [.int .i64 f1], [.int .i64 f2]] [0, s, f1, f2] rfl (by omega) (by omega) (by simp) (by simp)
  obtain ⟨b, h8⟩ := Flip_ok fu (n + 1) ls (at_ + 1 + 1 + 1 + 1 + 1 + 1 + 1) 25 (by omega) (by omega)
  obtain ⟨c, hc, h9⟩ := Next_ok fu (n + 2) ls (at_ + 1 + 1 + 1 + 1 + 1 + 1 + 1 + 1) 3 (by omega) (by omega)
  obtain ⟨o1, h10⟩ := odd10_ok fu n ls (at_ + 1 + 1 + 1 + 1 + 1 + 1 + 1 + 1 + 1) 1 2000 (by omega) (by omega) (by omega) (by omega) (by omega)
  obtain ⟨o2, h11⟩ := odd10_ok fu n ls (at_ + 1 + 1 + 1 + 1 + 1 + 1 + 1 + 1 + 1) 1 60 (by omega) (by omega) (by omega) (by omega) (by omega)
  obtain ⟨o3, h12⟩ := odd10_ok fu n ls (at_ + 1 + 1 + 1 + 1 + 1 + 1 + 1 + 1 + 1) 0 s (by omega) (by omega) (by omega) (by omega) (by omega)
  unfold sb at h1' h2 h3 h4 h5 h6 h7 h8 h9 h10 h11 h12
  have key : ∀ at2 p s f, at_ ≤ at2 → at2 ≤ at_ + 100 → ev fu (n + 5) 13 [.ptr 0 0] (sb ls at_) = some ([(none, .agg (drw p s f))], sb ls at2) → ∃ p s f at2, at_ ≤ at2 ∧ at2 ≤ at_ + 100 ∧ ev fu (n + 5) 13 [.ptr 0 0] (sb ls at_) = some ([(none, .agg (drw p s f))], sb ls at2) := fun a b c d x y z => ⟨b, c, d, a, x, y, z⟩
  cases b
  · refine key (at_ + 1 + 1 + 1 + 1 + 1 + 1 + 1 + 1) p s f (by omega) (by omega) ?_
    unfold sb
    rw [chasemake_Stream_Drawn_eq]
    simp only [npG_pos, npL_cons, np_int, np_list, npLL_i1, npLL_cons, npLL_nil, npL_nil, Bool.and_true, h1', h2, h3, h4, h5, h6, h7, h8, callE_some', rC_cons, dB_bool, rN_nil, bX_cons, bC_cons, dL_list, dI_int, bN_nil, eqM_self', mm2_min, cnd_false]
    exact npO_sbL (by simp)
  · by_cases hc0 : c = 0
    · refine key (at_ + 1 + 1 + 1 + 1 + 1 + 1 + 1 + 1 + 1 + 1 + 1) o1 s f (by omega) (by omega) ?_
      unfold sb
      rw [chasemake_Stream_Drawn_eq]
      simp only [npG_pos, npL_cons, np_int, np_list, npLL_i1, npLL_cons, npLL_nil, npL_nil, Bool.and_true, h1', h2, h3, h4, h5, h6, h7, h8, h9, h10, callE_some', rC_cons, dB_bool, rN_nil, bX_cons, bC_cons, dL_list, dI_int, bN_nil, eqM_self', mm2_min, cnd_true, cnd_decide, if_pos hc0]
      exact npO_sbL (by simp)
    · by_cases hc1 : c = 1
      · refine key (at_ + 1 + 1 + 1 + 1 + 1 + 1 + 1 + 1 + 1 + 1 + 1) p o2 f (by omega) (by omega) ?_
        unfold sb
        rw [chasemake_Stream_Drawn_eq]
        simp only [npG_pos, npL_cons, np_int, np_list, npLL_i1, npLL_cons, npLL_nil, npL_nil, Bool.and_true, h1', h2, h3, h4, h5, h6, h7, h8, h9, h11, callE_some', rC_cons, dB_bool, rN_nil, bX_cons, bC_cons, dL_list, dI_int, bN_nil, eqM_self', mm2_min, cnd_true, cnd_decide, if_neg hc0, if_pos hc1]
        exact npO_sbL (by simp)
      · refine key (at_ + 1 + 1 + 1 + 1 + 1 + 1 + 1 + 1 + 1 + 1 + 1) p s o3 (by omega) (by omega) ?_
        unfold sb
        rw [chasemake_Stream_Drawn_eq]
        simp only [npG_pos, npL_cons, np_int, np_list, npLL_i1, npLL_cons, npLL_nil, npL_nil, Bool.and_true, h1', h2, h3, h4, h5, h6, h7, h8, h9, h12, callE_some', rC_cons, dB_bool, rN_nil, bX_cons, bC_cons, dL_list, dI_int, bN_nil, eqM_self', mm2_min, cnd_true, cnd_decide, if_neg hc0, if_neg hc1]
        exact npO_sbL (by simp)

end Go.Pv

