/- Chapter 6: decisions; the checks of both sides, copies, comparison. -/
import Derived.Test.YtgndakamacnegaaGreatDoorC6
set_option linter.unusedSimpArgs false
set_option linter.unusedVariables false
set_option maxRecDepth 100000
namespace Go.Pv
open Go Go.Proofs

structure Dec where
  no : Int
  at_ : Int
  rev : ByteArray
  item : ByteArray
  sec : Bool
  vals : List Choice
def decC (d : Dec) : List MV := [.int .i64 d.no, .int .i64 d.at_, .str d.rev, .str d.item, .bool d.sec, .list (d.vals.map choC)]
@[simp] theorem decC_len (d : Dec) : (decC d).length = 6 := rfl
section
variable {α : Type}
theorem rdDec {xs : List Dec} {i : Nat} (h : i < xs.length) (K : Int → Int → ByteArray → ByteArray → Bool → List (List MV) → Option α) :
    rd (xs.map decC) (i : Int) (fun e => gd (e.length = 6) (gd (0 + 6 ≤ e.length) (unC (List.take 6 (List.drop 0 e)) fun m2 c3 => (dI .i64 m2 fun x4 => (unC c3 fun m5 c6 => (dI .i64 m5 fun x7 => (unC c6 fun m8 c9 => (dS m8 fun x10 => (unC c9 fun m11 c12 => (dS m11 fun x13 => (unC c12 fun m14 c15 => (dB m14 fun x16 => (unC c15 fun m17 c18 => (dL m17 fun x19 => (unN c18 (K x4 x7 x10 x13 x16 x19)))))))))))))))) =
      K xs[i].no xs[i].at_ xs[i].rev xs[i].item xs[i].sec (xs[i].vals.map choC) := by
  rw [rdm h, gd_pos (decC_len _), gd_pos (by simp)]
  simp [decC]
end
/-- The error of a decision of a right layout. -/
def decE (L : Lay) (no : Int) (d : Dec) : Int :=
  fnz [if (!decide (d.no = no)) = true then 1 else 0, if (!inB d.at_ 0 5761439) = true then 1 else 0, if (!keyS d.rev) = true then 5 else 0, if (!keyS d.item) = true then 5 else 0,
    valE L.asks d.vals, if decide (((d.vals.map choC).length : Int) = 0) = true then 3 else 0, if decide ((0 : Int) < (((brkL d.vals 0 L.rules).map i1).length : Int)) = true then 16 else 0]
theorem Moment_ok (fu n : Nat) (x : Int) : ev fu (n + 2) 63 [.int .i64 x] [] = some ([.bool (inB x 0 5761439)], []) := by
  rw [base_Moment_eq, In_ok, rB_some]
theorem decisionError_ok (fu n : Nat) (L : Lay) (hL : LayOk L) (d : Dec) (hd : ValOk d.vals) (k : Int) (hfu : 1000000 ≤ fu) :
    ev fu (n + 6) 32 [layM L, .agg (decC d), .int .i64 k] [] = some ([.int .i64 (decE L (IntKind.i64.wrap (k + 1)) d)], []) := by
  have h1 := valuesError_ok fu n L hL d.vals hd hfu
  have h2 := broken_ok fu (n + 1) L hL d.vals hd hfu
  unfold valsM layM at *
  unfold decC
  rw [review_decisionError_eq]
  simp only [Moment_ok, Key_ok fu _ _ hfu, rB_some, h1, rI_some, When_ok, h2, rO_some, eqM_self', First3_ok fu (n + 4) hfu, cnd_errc _ _ (show (1 : Int) ≠ 0 by decide), cnd_errc _ _ (show (5 : Int) ≠ 0 by decide)]
  rw [← errO_fin (fnz _)]
  simp only [errO_errO, fnz_b, fnz_c, List.cons_append, List.nil_append]
  rw [errO_fin]; rfl
theorem decisionFault_ok (fu n : Nat) (L : Lay) (hL : LayOk L) (d : Dec) (hd : ValOk d.vals) (k : Int) (hfu : 1000000 ≤ fu) :
    ev fu (n + 6) 34 [layM L, .int .i64 k, .agg (decC d)] [] = some ([.int .i64 (decE L k d)], []) := by
  have h1 := valuesRight_ok fu n L hL d.vals hd hfu
  have h2 := BrokenOf_ok fu (n + 1) L hL d.vals hd hfu
  unfold valsM layM at *
  unfold decC
  rw [chaseref2_decisionFault_eq]
  simp only [in_ok, RKey_ok fu (n + 2), rB_some, h1, rI_some, h2, rO_some, cnd_err, cnd_errc _ _ (show (1 : Int) ≠ 0 by decide), cnd_errc _ _ (show (5 : Int) ≠ 0 by decide), cnd_errc _ _ (show (3 : Int) ≠ 0 by decide), cnd_errc _ _ (show (16 : Int) ≠ 0 by decide)]
  simp only [errO_errO, fnz_b, fnz_c, List.cons_append, List.nil_append]
  rw [errO_fin]; rfl
/-- The error of decisions with their layout. -/
def decsL (L : Lay) (ds : List Dec) : Int := (errL (fun i (_ : Unit) d => decE L ((i + 1 : Nat) : Int) d) (fun _ s _ => s) 0 () ds).1
def decsE (L : Lay) (ds : List Dec) : Int := fnz [layE L, if decide ((5000 : Int) < ((ds.map decC).length : Int)) = true then 2 else 0, decsL L ds]
theorem Check_ok (fu n : Nat) (L : Lay) (hL : LayOk L) (ds : List Dec) (hd : ∀ d ∈ ds, ValOk d.vals) (hl : ds.length ≤ 100000) (hfu : 1000000 ≤ fu) :
    ev fu (n + 7) 13 [layM L, .list (ds.map decC)] [] = some ([.int .i64 (decsE L ds)], []) := by
  have h := err_loop ds (fun k i (_ : Unit) => review_Check_L1 fu (n + 6) k (L.asks.map askC) (L.rules.map ruleC) (ds.map decC) (ds.length : Nat) i) (fun i _ d => decE L ((i + 1 : Nat) : Int) d) (fun _ s _ => s) (fun _ => some ([.int .i64 0], []))
    (fun k s => by rw [review_Check_L1_eq, cnd_decide, if_neg (by omega)])
    (fun k i s hi => by
      have h1 := decisionError_ok fu n L hL ds[i] (hd _ (List.getElem_mem _)) i hfu
      unfold layM decC at h1
      rw [review_Check_L1_eq, cnd_decide, if_pos (by omega), rdDec hi, h1, rI_some, cnd_err, i64s (by omega)]) ds.length 0 fu () (by omega) (by omega)
  have h0 := CheckLayout_ok fu (n + 1) L hL hfu
  unfold layM at *
  rw [review_Check_eq]
  simp only [h0, rI_some, When_ok, First2_ok fu (n + 5) hfu, cnd_err]
  rw [List.drop_zero, errO_fin] at h
  have h' : review_Check_L1 fu (n + 6) fu (L.asks.map askC) (L.rules.map ruleC) (ds.map decC) (ds.length : Nat) (0 : Int) = _ := h
  rw [List.length_map, h']
  unfold decsE decsL; rw [List.length_map]
  generalize (errL _ _ _ _ _).1 = E
  rw [← errO_fin E, errO_errO, errO_fin]
  simp only [fnz_a, List.cons_append, List.nil_append]
theorem DecisionsFault_ok (fu n : Nat) (L : Lay) (hL : LayOk L) (ds : List Dec) (hd : ∀ d ∈ ds, ValOk d.vals) (hl : ds.length ≤ 100000) (hfu : 1000000 ≤ fu) :
    ev fu (n + 7) 12 [layM L, .list (ds.map decC)] [] = some ([.int .i64 (decsE L ds)], []) := by
  have h := err_loop ds (fun k i (_ : Unit) => chaseref2_DecisionsFault_L1 fu (n + 6) k (L.asks.map askC) (L.rules.map ruleC) (ds.map decC) (ds.length : Nat) i) (fun i _ d => decE L ((i + 1 : Nat) : Int) d) (fun _ s _ => s) (fun _ => some ([.int .i64 0], []))
    (fun k s => by rw [chaseref2_DecisionsFault_L1_eq, cnd_decide, if_neg (by omega)])
    (fun k i s hi => by
      have h1 := decisionFault_ok fu n L hL ds[i] (hd _ (List.getElem_mem _)) ((i + 1 : Nat) : Int) hfu
      unfold layM decC at h1
      rw [chaseref2_DecisionsFault_L1_eq, cnd_decide, if_pos (by omega), rdDec hi, i64s (by omega), h1, rI_some, cnd_err]) ds.length 0 fu () (by omega) (by omega)
  have h0 := LayoutFault_ok fu (n + 1) L hL hfu
  unfold layM at *
  rw [chaseref2_DecisionsFault_eq]
  simp only [h0, rI_some, cnd_err, cnd_errc _ _ (show (2 : Int) ≠ 0 by decide)]
  rw [List.drop_zero, errO_fin] at h
  have h' : chaseref2_DecisionsFault_L1 fu (n + 6) fu (L.asks.map askC) (L.rules.map ruleC) (ds.map decC) (ds.length : Nat) (0 : Int) = _ := h
  rw [List.length_map, h']
  unfold decsE decsL; rw [List.length_map]
  generalize (errL _ _ _ _ _).1 = E
  rw [← errO_fin E, errO_errO, errO_errO, errO_fin]
  simp only [fnz_a, fnz_b, List.cons_append, List.nil_append]
/-! ### Copies -/
theorem CloneS_ok (fu n : Nat) (l : List ByteArray) (hl : l.length ≤ 100000) : ev fu (n + 1) 85 [.list (strs l)] [] = some ([.ref 0], [some (.row false 1 (strs l) [])]) := by
  rw [slices_Clone_Sstring_string_eq]
  refine nilB_eq ?_ (fun h => by rw [h])
  rw [show wid 1 (strs l) = true from wid_map (f := sS) sS_len l, sB_true, gL_pos (by simp; omega), List.nil_append]
theorem CloneD_ok (fu n : Nat) (l : List Dec) (hl : l.length ≤ 100000) : ev fu (n + 1) 36 [.list (l.map decC)] [] = some ([.ref 0], [some (.row false 6 (l.map decC) [])]) := by
  rw [slices_Clone_Sapi_Decision_api_Decision_eq]
  refine nilB_eq ?_ (fun h => by rw [h])
  rw [wid_map decC_len l, sB_true, gL_pos (by simp; omega), List.nil_append]
/-- A loop that copies a row. -/
theorem copy_loop {α : Type} (f : α → List MV) (xs : List α) (sz : Nat) (hx : xs.length ≤ 100000) (L : Nat → List (List MV) → Int → Out)
    (h0 : ∀ k out, L (k + 1) out (xs.length : Nat) = some ([.ref 0], [some (.row false sz out [])]))
    (h1 : ∀ k (i : Nat) (out : List (List MV)) (hi : i < xs.length), out.length ≤ i → L (k + 1) out i = L k (out ++ [f xs[i]]) ((i + 1 : Nat) : Int)) :
    ∀ (m i k : Nat) (out : List (List MV)), i + m = xs.length → m < k → out.length ≤ i → L k out i = some ([.ref 0], [some (.row false sz (out ++ (xs.drop i).map f) [])])
  | m, i, 0, out, hi, hk, ho => by omega
  | 0, i, k + 1, out, hi, hk, ho => by
    have : i = xs.length := by omega
    subst this
    rw [h0, List.drop_length, List.map_nil, List.append_nil]
  | m + 1, i, k + 1, out, hi, hk, ho => by
    have hlt : i < xs.length := by omega
    rw [h1 k i out hlt ho, copy_loop f xs sz hx L h0 h1 m (i + 1) k _ (by omega) (by omega) (by simp; omega), List.drop_eq_getElem_cons hlt, List.map_cons, List.append_assoc]; rfl
theorem values_ok (fu n : Nat) (v : List Choice) (hv : ValOk v) (hfu : 1000000 ≤ fu) : ev fu (n + 2) 67 [.list (v.map choC)] [] = some ([.ref 0], [some (.row false 2 (v.map choC) [])]) := by
  have hlen := hv.len
  have h := copy_loop choC v 2 (by omega) (fun k out i => review_values_L1 fu (n + 1) k out (v.map choC) (v.length : Nat) i)
    (fun k out => by rw [review_values_L1_eq, cnd_decide, if_neg (by omega)])
    (fun k i out hi ho => by
      have hl := hv.choices v[i] (List.getElem_mem _)
      rw [review_values_L1_eq, cnd_decide, if_pos (by omega), rdCho hi]
      simp only [eqM_self', CloneS_ok fu n _ (show v[i].choices.length ≤ 100000 by omega), rO_some]
      rw [gL_pos (by simp; omega), i64s (by omega)]; rfl) v.length 0 fu [] (by omega) (by omega) (by simp)
  rw [review_values_eq, List.length_map]
  exact h
theorem copied_ok (fu n : Nat) (ds : List Dec) (hd : ∀ d ∈ ds, ValOk d.vals) (hl : ds.length ≤ 100000) (hfu : 1000000 ≤ fu) : ev fu (n + 3) 33 [.list (ds.map decC)] [] = some ([.ref 0], [some (.row false 6 (ds.map decC) [])]) := by
  have h := copy_loop decC ds 6 (by omega) (fun k out i => review_copied_L1 fu (n + 2) k out (ds.map decC) (ds.length : Nat) i)
    (fun k out => by rw [review_copied_L1_eq, cnd_decide, if_neg (by omega)])
    (fun k i out hi ho => by
      rw [review_copied_L1_eq, cnd_decide, if_pos (by omega), rdDec hi, values_ok fu n _ (hd _ (List.getElem_mem _)) hfu, rO_some, gL_pos (by simp; omega), i64s (by omega)]; rfl) ds.length 0 fu [] (by omega) (by omega) (by simp)
  rw [review_copied_eq, List.length_map]
  exact h
/-! ### The same -/
/-- A loop that finds all so. -/
theorem true_loop {α : Type} (xs : List α) (L : Nat → Int → Out)
    (h0 : ∀ k, L (k + 1) (xs.length : Nat) = some ([.bool true], []))
    (h1 : ∀ k (i : Nat) (hi : i < xs.length), L (k + 1) i = L k ((i + 1 : Nat) : Int)) : ∀ (m i k : Nat), i + m = xs.length → m < k → L k i = some ([.bool true], [])
  | m, i, 0, hi, hk => by omega
  | 0, i, k + 1, hi, hk => by
    have : i = xs.length := by omega
    subst this
    exact h0 k
  | m + 1, i, k + 1, hi, hk => by
    rw [h1 k i (by omega)]
    exact true_loop xs L h0 h1 m (i + 1) k (by omega) (by omega)
theorem EqualS_same (fu n : Nat) (l : List ByteArray) (hl : l.length ≤ 100000) (hfu : 1000000 ≤ fu) : ev fu (n + 1) 61 [.list (strs l), .list (strs l)] [] = some ([.bool true], []) := by
  have h := true_loop l (fun k i => slices_Equal_Sstring_string_L1 fu n k (strs l) (strs l) (l.length : Nat) i)
    (fun k => by rw [slices_Equal_Sstring_string_L1_eq, cnd_decide, if_neg (by omega)])
    (fun k i hi => by
      have hrd : ∀ K : List MV → Out, rd (strs l) (i : Int) K = K (sS l[i]) := fun K => by unfold strs; exact rdm hi K
      rw [slices_Equal_Sstring_string_L1_eq, cnd_decide, if_pos (by omega), hrd, gd_pos (sS_len _)]
      simp only [sS, cel_zero, dS_str]
      rw [hrd, gd_pos (sS_len _)]
      simp only [sS, cel_zero, dS_str, decide_true, Bool.not_true, cnd_false]
      rw [i64s (by omega)]) l.length 0 fu (by omega) (by omega)
  rw [slices_Equal_Sstring_string_eq, decide_eq_true rfl, Bool.not_true, cnd_false, strs_len]
  exact h
theorem SameChoice_same (fu n : Nat) (c : Choice) (hc : c.choices.length ≤ 100000) (hfu : 1000000 ≤ fu) : ev fu (n + 2) 75 [.agg (choC c), .agg (choC c)] [] = some ([.bool true], []) := by
  unfold choC
  rw [chaseref2_SameChoice_eq, decide_eq_true rfl, cnd_true, EqualS_same fu n _ hc hfu, rB_some]
theorem EqualFuncC_same (fu n : Nat) (v : List Choice) (hv : ValOk v) (hfu : 1000000 ≤ fu) : ev fu (n + 3) 74 [.list (v.map choC), .list (v.map choC), .fn 75 []] [] = some ([.bool true], []) := by
  have hlen := hv.len
  have h := true_loop v (fun k i => slices_EqualFunc_Sapi_Choice_Sapi_Choice_api_Choice_api_Choice_L1 fu (n + 2) k (v.map choC) 75 [] (v.map choC) (v.length : Nat) i)
    (fun k => by rw [slices_EqualFunc_Sapi_Choice_Sapi_Choice_api_Choice_api_Choice_L1_eq, cnd_decide, if_neg (by omega)])
    (fun k i hi => by
      have hl := hv.choices v[i] (List.getElem_mem _)
      have h1 := SameChoice_same fu n v[i] (by omega) hfu
      unfold choC at h1
      rw [slices_EqualFunc_Sapi_Choice_Sapi_Choice_api_Choice_api_Choice_L1_eq, cnd_decide, if_pos (by omega), rdCho hi, rdCho hi, npG_pos (by simp)]
      simp only [List.append_nil, h1, rB_some, Bool.not_true, cnd_false]
      rw [i64s (by omega)]; rfl) v.length 0 fu (by omega) (by omega)
  rw [slices_EqualFunc_Sapi_Choice_Sapi_Choice_api_Choice_api_Choice_eq, decide_eq_true rfl, Bool.not_true, cnd_false, List.length_map]
  exact h
theorem SameDecision_same (fu n : Nat) (d : Dec) (hd : ValOk d.vals) (hfu : 1000000 ≤ fu) : ev fu (n + 5) 17 [.agg (decC d), .agg (decC d)] [] = some ([.bool true], []) := by
  unfold decC
  rw [chaseref2_SameDecision_eq]
  simp only [decide_true, cnd_true, beq_self_eq_true]
  rw [chaseref2_SameValues_eq, EqualFuncC_same fu n _ hd hfu, rB_some, rB_some]
theorem EqualFuncD_same (fu n : Nat) (ds : List Dec) (hd : ∀ d ∈ ds, ValOk d.vals) (hl : ds.length ≤ 100000) (hfu : 1000000 ≤ fu) : ev fu (n + 6) 16 [.list (ds.map decC), .list (ds.map decC), .fn 17 []] [] = some ([.bool true], []) := by
  have h := true_loop ds (fun k i => slices_EqualFunc_Sapi_Decision_Sapi_Decision_api_Decision_api_Decision_L1 fu (n + 5) k (ds.map decC) 17 [] (ds.map decC) (ds.length : Nat) i)
    (fun k => by rw [slices_EqualFunc_Sapi_Decision_Sapi_Decision_api_Decision_api_Decision_L1_eq, cnd_decide, if_neg (by omega)])
    (fun k i hi => by
      have h1 := SameDecision_same fu n ds[i] (hd _ (List.getElem_mem _)) hfu
      unfold decC at h1
      rw [slices_EqualFunc_Sapi_Decision_Sapi_Decision_api_Decision_api_Decision_L1_eq, cnd_decide, if_pos (by omega), rdDec hi, rdDec hi, npG_pos (by simp)]
      simp only [List.append_nil, h1, rB_some, Bool.not_true, cnd_false]
      rw [i64s (by omega)]; rfl) ds.length 0 fu (by omega) (by omega)
  rw [slices_EqualFunc_Sapi_Decision_Sapi_Decision_api_Decision_api_Decision_eq, decide_eq_true rfl, Bool.not_true, cnd_false, List.length_map]
  exact h
end Go.Pv
