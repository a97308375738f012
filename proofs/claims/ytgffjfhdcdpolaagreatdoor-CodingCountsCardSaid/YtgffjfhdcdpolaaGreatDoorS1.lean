/- Laws of streams: what they hand out lies in its range. -/
import Derived.Test.YtgffjfhdcdpolaaGreatDoorQ1
import Derived.Test.YtgffjfhdcdpolaaGreatDoorHU
set_option linter.unusedSimpArgs false
set_option linter.unusedVariables false
set_option maxRecDepth 100000
namespace Go.Pv
open Go Go.Proofs

/-- A stream in memory. -/
abbrev sb (ls : List Int) (at_ : Int) : Bxs := [some (.box [.list (ls.map i1), .int .i64 at_])]

def belowV (x n : Int) : Int := if n < 1 then 0 else if x.tmod n < 0 then IntKind.i64.wrap (x.tmod n + n) else x.tmod n

theorem belowV_range {x n : Int} (h : 1 ≤ n) (h2 : n < 4611686018427387904) : 0 ≤ belowV x n ∧ belowV x n < n := by
  unfold belowV
  have h3 : x.tmod n < n := Int.tmod_lt_of_pos x (by omega)
  have h4 : -n < x.tmod n := by
    have := Int.lt_tmod_of_pos x (show 0 < n by omega); omega
  rw [if_neg (by omega)]
  split
  · rw [w64 (by omega) (by omega)]; omega
  · omega

theorem Below_ok (fu n : Nat) (x m : Int) : ev fu (n + 1) 69 [.int .i64 x, .int .i64 m] [] = some ([.int .i64 (belowV x m)], []) := by
  rw [chasemake_Below_eq]
  unfold belowV
  by_cases h1 : m < 1
  · simp [h1]
  · by_cases h2 : x.tmod m < 0
    · simp [h1, h2, gd_pos (show m ≠ 0 by omega)]
    · simp [h1, h2, gd_pos (show m ≠ 0 by omega)]

theorem Next_ok (fu n : Nat) (ls : List Int) (at_ m : Int) (h0 : 0 ≤ at_) (h1 : at_ < 4611686018427387904) :
    ∃ v, (1 ≤ m → m < 4611686018427387904 → 0 ≤ v ∧ v < m) ∧ ev fu (n + 2) 21 [.ptr 0 0, .int .i64 m] (sb ls at_) = some ([.int .i64 v], sb ls (at_ + 1)) := by
  have hw1 : IntKind.i64.wrap (at_ + 1) = at_ + 1 := w64 (by omega) (by omega)
  have hw2 : IntKind.i64.wrap (at_ + 1 - 1) = at_ := by rw [show at_ + 1 - 1 = at_ from by omega]; exact w64 (by omega) (by omega)
  unfold sb
  rw [chasemake_Stream_Next_eq]
  by_cases hl : ls.length = 0
  · refine ⟨belowV (IntKind.i64.wrap ((at_ + 1) * 7919)) m, belowV_range, ?_⟩
    simp only [List.length_map, hl, hw1]
    simp only [cnd_decide]
    rw [if_pos (show ((0 : Nat) : Int) = 0 from rfl), Below_ok, rI_some]
  · have hp : (0 : Int) < ls.length := by omega
    have g0 : 0 ≤ at_.tmod ls.length := Int.tmod_nonneg _ h0
    have g1 : at_.tmod ls.length < ls.length := Int.tmod_lt_of_pos _ hp
    have hi : (at_.tmod ls.length).toNat < ls.length := by omega
    have he : (ls.map i1)[(at_.tmod ls.length).toNat]? = some [.int .i64 ls[(at_.tmod ls.length).toNat]] := map_get i1 hi
    have hne : ((ls.length : Nat) : Int) ≠ 0 := by omega
    refine ⟨belowV (IntKind.i64.wrap (belowV ls[(at_.tmod ls.length).toNat] 1073741824 + IntKind.i64.wrap (IntKind.i64.wrap (at_.tdiv ls.length) * IntKind.i64.wrap (7919 + at_.tmod ls.length)))) m, belowV_range, ?_⟩
    · simp only [List.length_map, hw1, hw2, eqM_self', cnd_decide, if_neg hne, gd_pos hne, rd_get g0 he, List.length_cons, List.length_nil, cel_zero, dI_int, Below_ok, rI_some]
      rw [gd_pos (by simp)]

theorem Range_ok (fu n : Nat) (ls : List Int) (at_ lo hi : Int) (h0 : 0 ≤ at_) (h1 : at_ < 4611686018427387904) (hl : lo ≤ hi) (hb0 : -1000000000000 ≤ lo) (hb1 : hi ≤ 1000000000000) :
    ∃ v, (lo ≤ v ∧ v ≤ hi) ∧ ev fu (n + 3) 17 [.ptr 0 0, .int .i64 lo, .int .i64 hi] (sb ls at_) = some ([.int .i64 v], sb ls (at_ + 1)) := by
  obtain ⟨v, hv, h⟩ := Next_ok fu n ls at_ (hi - lo + 1) h0 h1
  have hv2 := hv (by omega) (by omega)
  have e1 : IntKind.i64.wrap (hi - lo) = hi - lo := w64 (by omega) (by omega)
  have e2 : IntKind.i64.wrap (hi - lo + 1) = hi - lo + 1 := w64 (by omega) (by omega)
  have e3 : IntKind.i64.wrap (lo + v) = lo + v := w64 (by omega) (by omega)
  refine ⟨lo + v, by omega, ?_⟩
  unfold sb at *
  rw [chasemake_Stream_Range_eq]
  simp only [e1, e2, cnd_decide]
  rw [if_neg (by omega), h]
  simp only [skI_some, skB_some, skS_some, callE_some', unXN_nil, unC_cons, dI_int, unN_nil, unX_cons, dBx_box, dL_list, unXN_nil, e3]

theorem Flip_ok (fu n : Nat) (ls : List Int) (at_ m : Int) (h0 : 0 ≤ at_) (h1 : at_ < 4611686018427387904) :
    ∃ b, ev fu (n + 3) 20 [.ptr 0 0, .int .i64 m] (sb ls at_) = some ([.bool b], sb ls (at_ + 1)) := by
  obtain ⟨v, hv, h⟩ := Next_ok fu n ls at_ m h0 h1
  refine ⟨decide (v = 0), ?_⟩
  unfold sb at *
  rw [chasemake_Stream_Flip_eq, h]
  simp only [skI_some, skB_some, skS_some, callE_some', unXN_nil, unC_cons, dI_int, unN_nil, unX_cons, dBx_box, dL_list, unXN_nil]

theorem Pick_ok (fu n : Nat) (ls : List Int) (at_ : Int) (xs : List Int) (h0 : 0 ≤ at_) (h1 : at_ < 4611686018427387904) (hx : 1 ≤ xs.length) (hx2 : xs.length < 1000000) :
    ∃ v, v ∈ xs ∧ ev fu (n + 3) 19 [.ptr 0 0, .list (xs.map i1)] (sb ls at_) = some ([.int .i64 v], sb ls (at_ + 1)) := by
  obtain ⟨v, hv, h⟩ := Next_ok fu n ls at_ xs.length h0 h1
  have hv2 := hv (by omega) (by omega)
  have hi : v.toNat < xs.length := by omega
  refine ⟨xs[v.toNat], List.getElem_mem hi, ?_⟩
  have he : (xs.map i1)[v.toNat]? = some [.int .i64 xs[v.toNat]] := map_get i1 hi
  unfold sb at *
  rw [chasemake_Stream_Pick_eq]
  simp only [List.length_map]
  rw [h]
  simp only [skI_some, skB_some, skS_some, callE_some', unXN_nil, unC_cons, dI_int, unN_nil, unX_cons, dBx_box, dL_list, unXN_nil, rd_get hv2.1 he, List.length_cons, List.length_nil, cel_zero]
  rw [gd_pos (by simp)]

/-- The same, for a row that is written out. -/
theorem Pick_okL (fu n : Nat) (ls : List Int) (at_ : Int) (es : List (List MV)) (xs : List Int) (he : es = xs.map i1) (h0 : 0 ≤ at_) (h1 : at_ < 4611686018427387904) (hx : 1 ≤ xs.length) (hx2 : xs.length < 1000000) :
    ∃ v, v ∈ xs ∧ ev fu (n + 3) 19 [.ptr 0 0, .list es] (sb ls at_) = some ([.int .i64 v], sb ls (at_ + 1)) := by
  subst he; exact Pick_ok fu n ls at_ xs h0 h1 hx hx2

end Go.Pv
