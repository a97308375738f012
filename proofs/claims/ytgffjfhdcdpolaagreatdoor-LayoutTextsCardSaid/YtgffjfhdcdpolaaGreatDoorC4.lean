/- Chapter 6: broken rules, both sides; what streams make. -/
import Derived.Test.YtgffjfhdcdpolaaGreatDoorC3
set_option linter.unusedSimpArgs false
set_option linter.unusedVariables false
set_option maxRecDepth 100000
namespace Go.Pv
open Go Go.Proofs

/-! ### Broken rules -/
def isC (f : ByteArray) (c : Choice) : Bool := decide (c.field = f)
def valL (v : List Choice) (f : ByteArray) : List ByteArray := match v.find? (isC f) with
  | some c => c.choices
  | none => []
theorem valL_len {v : List Choice} (hv : ValOk v) (f : ByteArray) : (valL v f).length ≤ 200000 := by
  unfold valL
  split
  · rename_i c h; exact hv.choices c (List.mem_of_find?_eq_some h)
  · simp
/-- Do values break a rule? -/
def brk (v : List Choice) (r : Rule) : Bool := ((valL v r.field).any fun x => decide (r.iff' = x)) && ((decide (0 < ((strs (valL v r.other)).length : Int)) && (decide (r.thn = ⟨#[]⟩) || (valL v r.other).any fun x => decide (r.thn = x))) == decide (r.kind = 2))
def brkL (v : List Choice) : Nat → List Rule → List Int
  | _, [] => []
  | i, r :: q => if brk v r then (i : Int) :: brkL v (i + 1) q else brkL v (i + 1) q
theorem brkL_len (v : List Choice) : ∀ (l : List Rule) (i : Nat), (brkL v i l).length ≤ l.length
  | [], i => Nat.le_refl _
  | r :: q, i => by
    unfold brkL
    have := brkL_len v q (i + 1)
    split
    · simp; omega
    · simp; omega
theorem brk_run (v : List Choice) (xs : List Rule) (hx : xs.length ≤ 200000) (L : Nat → List (List MV) → Int → Out)
    (h0 : ∀ k out, L (k + 1) out (xs.length : Nat) = some ([.ref 0], [some (.row false 1 out [])]))
    (h1 : ∀ k (i : Nat) (out : List Int) (hi : i < xs.length), out.length ≤ i → L (k + 1) (out.map i1) i = L k ((if brk v xs[i] then out ++ [(i : Int)] else out).map i1) ((i + 1 : Nat) : Int)) :
    ∀ (m i k : Nat) (out : List Int), i + m = xs.length → m < k → out.length ≤ i → L k (out.map i1) i = some ([.ref 0], [some (.row false 1 ((out ++ brkL v i (xs.drop i)).map i1) [])])
  | m, i, 0, out, hi, hk, ho => by omega
  | 0, i, k + 1, out, hi, hk, ho => by
    have : i = xs.length := by omega
    subst this
    rw [h0, List.drop_of_length_le (Nat.le_refl _), brkL, List.append_nil]
  | m + 1, i, k + 1, out, hi, hk, ho => by
    have hlt : i < xs.length := by omega
    have hlen : (if brk v xs[i] then out ++ [(i : Int)] else out).length ≤ i + 1 := by
      split
      · simp; omega
      · omega
    rw [h1 k i out hlt ho, brk_run v xs hx L h0 h1 m (i + 1) k _ (by omega) (by omega) hlen, List.drop_eq_getElem_cons hlt, brkL]
    split
    · rw [List.append_assoc]; rfl
    · rfl
/-! ### What streams make -/
theorem odd10_ok (fu n : Nat) (ls : List Int) (at_ lo hi : Int) (h0 : 0 ≤ at_) (h1 : at_ < 4000000000000000000) (hl : lo ≤ hi) (hb0 : -1000000000000 ≤ lo) (hb1 : hi ≤ 1000000000000) :
    ∃ v a, 0 ≤ a ∧ a ≤ at_ + 2 ∧ ev fu (n + 4) 40 [.ptr 0 0, .int .i64 lo, .int .i64 hi] (sb ls at_) = some ([.int .i64 v], sb ls a) := by
  obtain ⟨b, g1⟩ := Flip_ok fu n ls at_ 12 h0 (by omega)
  rw [chasemake_Stream_odd10_eq, g1, skB_some]
  cases b
  · obtain ⟨v, hv, g2⟩ := Range_ok fu n ls (at_ + 1) lo hi (by omega) (by omega) hl hb0 hb1
    rw [cnd_false, g2, skI_some]
    exact ⟨v, _, by omega, by omega, rfl⟩
  · obtain ⟨v, hv, g2⟩ := Pick_okL fu n ls (at_ + 1) [[.int .i64 (IntKind.i64.wrap (lo - 1))], [.int .i64 (IntKind.i64.wrap (hi + 1))], [.int .i64 lo], [.int .i64 hi], [.int .i64 (-1099511627776)], [.int .i64 1099511627776]] [IntKind.i64.wrap (lo - 1), IntKind.i64.wrap (hi + 1), lo, hi, -1099511627776, 1099511627776] rfl (by omega) (by omega) (by simp) (by simp)
    rw [cnd_true, g2, skI_some]
    exact ⟨v, _, by omega, by omega, rfl⟩
end Go.Pv
