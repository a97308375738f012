/- Laws of streams: what they hand out lies in its range. -/
import Derived.Test.YtoakchnegkmepaaDoorQ1
import Derived.Test.YtoakchnegkmepaaDoorE9
set_option linter.unusedSimpArgs false
set_option linter.unusedVariables false
set_option maxRecDepth 100000
namespace Go.Pv
open Go Go.Proofs

/-- A stream in memory. -/
def sb (ls : List Int) (at_ : Int) : Bxs := [some [.sh (.list (ls.map i1)), .sh (.int .i64 at_)]]

def belowV (x n : Int) : Int := if n < 1 then 0 else if x.tmod n < 0 then IntKind.i64.wrap (x.tmod n + n) else x.tmod n

theorem belowV_range {x n : Int} (h : 1 ≤ n) (h2 : n < 4611686018427387904) : 0 ≤ belowV x n ∧ belowV x n < n := by
  unfold belowV
  have h3 : x.tmod n < n := Int.tmod_lt_of_pos x (by omega)
  have h4 : -n < x.tmod n := by
    have := Int.lt_tmod_of_pos x (show 0 < n by omega); omega
  rw [if_neg (by omega)]
  split
  · rw [w64 (by omega) (by omega)]; omega
  · omega

theorem Below_ok (fu n : Nat) (x m : Int) : ev fu (n + 1) 11 [.int .i64 x, .int .i64 m] [] = some ([(none, .int .i64 (belowV x m))], []) := by
  rw [chasemake_Below_eq]
  unfold belowV
  by_cases h1 : m < 1
  · simp [h1, npO, npG]
  · by_cases h2 : x.tmod m < 0
    · simp [h1, h2, npO, npG, gd_pos (show m ≠ 0 by omega)]
    · simp [h1, h2, npO, npG, gd_pos (show m ≠ 0 by omega)]

theorem npO_sb {m : MV} {ls : List Int} {a : Int} (h : np m = true) : npO 1 (some ([(none, m)], [some [.sh (.list (ls.map i1)), .sh (.int .i64 a)]])) = some ([(none, m)], sb ls a) := by
  exact npO_1 (cm := [.list (ls.map i1), .int .i64 a]) (by simp [h]) (by simp)

theorem Next_ok (fu n : Nat) (ls : List Int) (at_ m : Int) (h0 : 0 ≤ at_) (h1 : at_ < 4611686018427387904) :
    ∃ v, (1 ≤ m → m < 4611686018427387904 → 0 ≤ v ∧ v < m) ∧ ev fu (n + 2) 4 [.ptr 0 0, .int .i64 m] (sb ls at_) = some ([(none, .int .i64 v)], sb ls (at_ + 1)) := by
  have hw1 : IntKind.i64.wrap (at_ + 1) = at_ + 1 := w64 (by omega) (by omega)
  have hw2 : IntKind.i64.wrap (at_ + 1 - 1) = at_ := by rw [show at_ + 1 - 1 = at_ from by omega]; exact w64 (by omega) (by omega)
  unfold sb
  rw [chasemake_Stream_Next_eq]
  by_cases hl : ls.length = 0
  · refine ⟨belowV (IntKind.i64.wrap ((at_ + 1) * 7919)) m, belowV_range, ?_⟩
    simp only [List.length_map, hl, hw1]
    simp only [cnd_decide]
    rw [if_pos (show ((0 : Nat) : Int) = 0 from rfl), Below_ok, rI_some]
    exact npO_sb rfl
  · have hp : (0 : Int) < ls.length := by omega
    have g0 : 0 ≤ at_.tmod ls.length := Int.tmod_nonneg _ h0
    have g1 : at_.tmod ls.length < ls.length := Int.tmod_lt_of_pos _ hp
    have hi : (at_.tmod ls.length).toNat < ls.length := by omega
    have he : (ls.map i1)[(at_.tmod ls.length).toNat]? = some [.int .i64 ls[(at_.tmod ls.length).toNat]] := map_get i1 hi
    have hne : ((ls.length : Nat) : Int) ≠ 0 := by omega
    refine ⟨belowV (IntKind.i64.wrap (belowV ls[(at_.tmod ls.length).toNat] 1073741824 + IntKind.i64.wrap (IntKind.i64.wrap (at_.tdiv ls.length) * IntKind.i64.wrap (7919 + at_.tmod ls.length)))) m, belowV_range, ?_⟩
    · simp only [List.length_map, hw1, hw2, eqM_self', cnd_decide, if_neg hne, gd_pos hne, rd_get g0 he, List.length_cons, List.length_nil, cel_zero, dI_int, Below_ok, rI_some]
      rw [gd_pos (by simp)]
      rw [npO_sb rfl]
      rfl

end Go.Pv
