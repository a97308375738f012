/- Copies of rows, and rows that are the same. -/
import Derived.Test.YtgffjfhdcdpolaaGreatDoorC1
set_option linter.unusedSimpArgs false
set_option linter.unusedVariables false
set_option maxRecDepth 100000
namespace Go.Pv
open Go Go.Proofs

/-- A loop that copies a row. -/
theorem copy_loop {α : Type} (f : α → List MV) (xs : List α) (sz : Nat) (hx : xs.length ≤ 400000) (L : Nat → List (List MV) → Int → Out)
    (h0 : ∀ k out, L (k + 1) out (xs.length : Nat) = some ([.ref 0], [some (.row false sz out [])]))
    (h1 : ∀ k (i : Nat) (out : List (List MV)) (hi : i < xs.length), out.length ≤ i → L (k + 1) out i = L k (out ++ [f xs[i]]) ((i + 1 : Nat) : Int)) :
    ∀ (m i k : Nat) (out : List (List MV)), i + m = xs.length → m < k → out.length ≤ i → L k out i = some ([.ref 0], [some (.row false sz (out ++ (xs.drop i).map f) [])])
  | m, i, 0, out, hi, hk, ho => by omega
  | 0, i, k + 1, out, hi, hk, ho => by
    have : i = xs.length := by omega
    subst this
    rw [h0, List.drop_length, List.map_nil, List.append_nil]
  | m + 1, i, k + 1, out, hi, hk, ho => by
    have hlt : i < xs.length := by omega
    rw [h1 k i out hlt ho, copy_loop f xs sz hx L h0 h1 m (i + 1) k _ (by omega) (by omega) (by simp; omega), List.drop_eq_getElem_cons hlt, List.map_cons, List.append_assoc]; rfl
theorem true_loop {α : Type} (xs : List α) (L : Nat → Int → Out)
    (h0 : ∀ k, L (k + 1) (xs.length : Nat) = some ([.bool true], []))
    (h1 : ∀ k (i : Nat) (hi : i < xs.length), L (k + 1) i = L k ((i + 1 : Nat) : Int)) : ∀ (m i k : Nat), i + m = xs.length → m < k → L k i = some ([.bool true], [])
  | m, i, 0, hi, hk => by omega
  | 0, i, k + 1, hi, hk => by
    have : i = xs.length := by omega
    subst this
    exact h0 k
  | m + 1, i, k + 1, hi, hk => by
    rw [h1 k i (by omega)]
    exact true_loop xs L h0 h1 m (i + 1) k (by omega) (by omega)
theorem EqualS_same (fu n : Nat) (l : List ByteArray) (hl : l.length ≤ 400000) (hfu : 1000000 ≤ fu) : ev fu (n + 1) 30 [.list (strs l), .list (strs l)] [] = some ([.bool true], []) := by
  have h := true_loop l (fun k i => slices_Equal_Sstring_string_L1 fu n k (strs l) (strs l) (l.length : Nat) i)
    (fun k => by rw [slices_Equal_Sstring_string_L1_eq, cnd_decide, if_neg (by omega)])
    (fun k i hi => by
      have hrd : ∀ K : List MV → Out, rd (strs l) (i : Int) K = K (sS l[i]) := fun K => by unfold strs; exact rdm hi K
      rw [slices_Equal_Sstring_string_L1_eq, cnd_decide, if_pos (by omega), hrd, gd_pos (sS_len _)]
      simp only [sS, cel_zero, dS_str]
      rw [hrd, gd_pos (sS_len _)]
      simp only [sS, cel_zero, dS_str, decide_true, Bool.not_true, cnd_false]
      rw [i64s (by omega)]) l.length 0 fu (by omega) (by omega)
  rw [slices_Equal_Sstring_string_eq, decide_eq_true rfl, Bool.not_true, cnd_false, strs_len]
  exact h
end Go.Pv
