/- Chapter 6: layouts, values and broken rules; both sides are one. -/
import Derived.Test.YtgffjfhdcdpolaaGreatDoorC2
set_option linter.unusedSimpArgs false
set_option linter.unusedVariables false
set_option maxRecDepth 100000
namespace Go.Pv
open Go Go.Proofs

abbrev layM (L : Lay) : MV := .agg [.list (L.asks.map askC), .list (L.rules.map ruleC)]
theorem CheckLayout_L1 (fu n : Nat) (L : Lay) (hL : LayOk L) (hfu : 1000000 ≤ fu) :
    review_CheckLayout_L1 fu (n + 4) fu (L.asks.map askC) (L.rules.map ruleC) (L.asks.map askC) ((L.asks.map askC).length : Nat) (0 : Int) =
      errO (errL (σ := Unit) (fun i _ a => askE L.asks i a) (fun _ s _ => s) 0 () L.asks).1 (cnd (decide ((60 : Int) < (((L.rules.map ruleC).length : Nat) : Int))) (some ([.int .i64 (2 : Int)], [])) (review_CheckLayout_L3 fu (n + 4) fu (L.asks.map askC) (L.rules.map ruleC) (L.rules.map ruleC) ((L.rules.map ruleC).length : Nat) (0 : Int))) := by
  have h := err_loop L.asks (fun k i (_ : Unit) => review_CheckLayout_L1 fu (n + 4) k (L.asks.map askC) (L.rules.map ruleC) (L.asks.map askC) (L.asks.length : Nat) i) (fun i _ a => askE L.asks i a) (fun _ s _ => s)
    (fun _ => cnd (decide ((60 : Int) < (((L.rules.map ruleC).length : Nat) : Int))) (some ([.int .i64 (2 : Int)], [])) (review_CheckLayout_L3 fu (n + 4) fu (L.asks.map askC) (L.rules.map ruleC) (L.rules.map ruleC) ((L.rules.map ruleC).length : Nat) (0 : Int)))
    (fun k s => by rw [review_CheckLayout_L1_eq, cnd_decide, if_neg (by omega)])
    (fun k i s hi => by
      have hl := hL.choices L.asks[i] (List.getElem_mem _)
      have ha := hL.asks
      have hc := ContainsFuncA_ok fu (n + 2) 92 [.cptr (askC L.asks[i]) 0] (isF L.asks[i].field) rfl (fun a => by
        show ev fu (n + 1 + 1) 92 [.agg (askC a), .cptr (askC L.asks[i]) 0] [] = _
        unfold askC
        rw [review_CheckLayout_1_eq]; rfl) (L.asks.take i) (by rw [List.length_take]; omega) hfu
      unfold askC at hc
      rw [review_CheckLayout_L1_eq, cnd_decide, if_pos (by omega), rdAsk hi, slL_take askC_len L.asks (Nat.le_of_lt hi)]
      have e0 : (L.asks.take i).map askC = (L.asks.take i).map fun a => [.str a.field, .list (strs a.choices), .bool a.many, .int .i64 a.spread] := rfl
      rw [e0, hc, rB_some]
      simp only [eqM_self', Key_ok fu (n + 2) _ hfu, When_ok, rB_some, rI_some, First4_ok fu (n + 3) hfu, cnd_err]
      rw [CheckLayout_L2 fu n k L L.asks[i] i hfu hl (by omega), errO_errO, fnz_c]
      rfl) L.asks.length 0 fu () (by omega) (by have := hL.asks; omega)
  rw [List.length_map]
  exact h.trans (by rw [List.drop_zero])
theorem CheckLayout_ok (fu n : Nat) (L : Lay) (hL : LayOk L) (hfu : 1000000 ≤ fu) : ev fu (n + 5) 41 [layM L] [] = some ([.int .i64 (layE L)], []) := by
  rw [review_CheckLayout_eq]
  simp only [eqM_self', When_ok, rI_some, First2_ok fu (n + 3) hfu, cnd_err]
  rw [CheckLayout_L1 fu n L hL hfu, CheckLayout_L3 fu n L hL hfu, cnd_errc _ _ (by decide), errO_errO]
  have e : some ([MV.int .i64 (errL (σ := Unit) (fun _ _ r => ruleE L.asks r) (fun _ s _ => s) 0 () L.rules).1], ([] : Bxs)) = errO (errL (σ := Unit) (fun _ _ r => ruleE L.asks r) (fun _ s _ => s) 0 () L.rules).1 (some ([.int .i64 0], [])) := (errO_fin _).symm
  rw [e, errO_errO, errO_errO, errO_fin]
  unfold layE
  simp only [fnz_a, fnz_b, List.cons_append, List.nil_append]

theorem LayoutFault_L3 (fu n : Nat) (L : Lay) (hL : LayOk L) (hfu : 1000000 ≤ fu) :
    chaseref2_LayoutFault_L3 fu (n + 4) fu (L.asks.map askC) (L.rules.map ruleC) (L.rules.map ruleC) ((L.rules.map ruleC).length : Nat) (0 : Int) = some ([.int .i64 (errL (σ := Unit) (fun _ _ r => ruleE L.asks r) (fun _ s _ => s) 0 () L.rules).1], []) := by
  have h := err_loop L.rules (fun k i (_ : Unit) => chaseref2_LayoutFault_L3 fu (n + 4) k (L.asks.map askC) (L.rules.map ruleC) (L.rules.map ruleC) (L.rules.length : Nat) i) (fun _ _ r => ruleE L.asks r) (fun _ s _ => s) (fun _ => some ([.int .i64 0], []))
    (fun k s => by rw [chaseref2_LayoutFault_L3_eq, cnd_decide, if_neg (by omega)])
    (fun k i s hi => by
      have := hL.rules
      rw [chaseref2_LayoutFault_L3_eq, cnd_decide, if_pos (by omega), rdRule hi]
      simp only [in_ok, hasChoice_ok fu n L _ _ hL hfu, askAt_ok fu (n + 1) L _ hL hfu, rB_some, rI_some, i64s (show i < 9223372036854775807 by omega)]
      unfold ruleE
      have e : offB L.asks L.rules[i].other L.rules[i].thn true = (!decide (askIx L.asks L.rules[i].other < 0) && (decide (L.rules[i].thn = ⟨#[]⟩) || offB L.asks L.rules[i].other L.rules[i].thn false)) := by
        unfold offB askIx
        rcases fIx_find (isF L.rules[i].other) L.asks 0 with ⟨h1, h2⟩ | ⟨k, a, h1, h2, h3⟩
        · rw [h1, h2]; rfl
        · rw [h1, h3]
          have : decide ((((0 + k : Nat) : Int)) < 0) = false := decide_eq_false (by omega)
          rw [this]; simp
      rw [e]
      cases inB L.rules[i].kind 1 2 <;> cases offB L.asks L.rules[i].field L.rules[i].iff' false <;> cases decide (askIx L.asks L.rules[i].other < 0) <;> cases decide (L.rules[i].thn = ⟨#[]⟩) <;> cases offB L.asks L.rules[i].other L.rules[i].thn false <;> cases decide (L.rules[i].field = L.rules[i].other) <;> rfl) L.rules.length 0 fu () (by omega) (by have := hL.rules; omega)
  rw [List.length_map]
  refine h.trans ?_
  rw [List.drop_zero, errO_fin]
theorem LayoutFault_L2 (fu n k1 : Nat) (L : Lay) (a : Ask) (i : Nat) (hfu : 1000000 ≤ fu) (hl : a.choices.length ≤ 200000) (hi : i ≤ 200000) :
    chaseref2_LayoutFault_L2 fu (n + 4) k1 fu (L.asks.map askC) (L.rules.map ruleC) (L.asks.map askC) (L.asks.length : Nat) i (strs a.choices) ((strs a.choices).length : Nat) (0 : Int) a.field (strs a.choices) a.many a.spread =
      errO (fnz [choE a.choices, if (!inB a.spread 0 2) = true then 4 else 0]) (chaseref2_LayoutFault_L1 fu (n + 4) k1 (L.asks.map askC) (L.rules.map ruleC) (L.asks.map askC) (L.asks.length : Nat) ((i + 1 : Nat) : Int)) := by
  have h := err_loop a.choices (fun k j (_ : Unit) => chaseref2_LayoutFault_L2 fu (n + 4) k1 k (L.asks.map askC) (L.rules.map ruleC) (L.asks.map askC) (L.asks.length : Nat) i (strs a.choices) (a.choices.length : Nat) j a.field (strs a.choices) a.many a.spread) (fun k _ c => dupE a.choices k c) (fun _ s _ => s)
    (fun _ => errO (if (!inB a.spread 0 2) = true then 4 else 0) (chaseref2_LayoutFault_L1 fu (n + 4) k1 (L.asks.map askC) (L.rules.map ruleC) (L.asks.map askC) (L.asks.length : Nat) ((i + 1 : Nat) : Int)))
    (fun k s => by rw [chaseref2_LayoutFault_L2_eq, cnd_decide, if_neg (by omega), in_ok, rB_some, cnd_errc _ _ (by decide), i64s (by omega)])
    (fun k j s hj => by
      rw [chaseref2_LayoutFault_L2_eq, cnd_decide, if_pos (by omega)]
      unfold strs
      rw [rdm hj, gd_pos (sS_len _)]
      simp only [eqM_self', slL_take sS_len a.choices (Nat.le_of_lt hj), sS, cel_zero, dS_str]
      have h1 := ContainsS_ok fu (n + 2) (a.choices.take j) a.choices[j] (by simp; omega) hfu
      unfold strs at h1
      rw [RKey_ok fu (n + 1) a.choices[j], rB_some, cnd_errc _ _ (by decide), show (List.map sS (List.take j a.choices)) = (List.map sS (List.take j a.choices)) from rfl, h1, rB_some, cnd_errc _ _ (by decide), errO_errO, i64s (by omega)]
      rfl) a.choices.length 0 fu () (by omega) (by omega)
  rw [strs_len]
  refine h.trans ?_
  rw [List.drop_zero, errO_errO]; rfl
theorem LayoutFault_L1 (fu n : Nat) (L : Lay) (hL : LayOk L) (hfu : 1000000 ≤ fu) :
    chaseref2_LayoutFault_L1 fu (n + 4) fu (L.asks.map askC) (L.rules.map ruleC) (L.asks.map askC) ((L.asks.map askC).length : Nat) (0 : Int) =
      errO (errL (σ := Unit) (fun i _ a => askE L.asks i a) (fun _ s _ => s) 0 () L.asks).1 (cnd (decide ((60 : Int) < (((L.rules.map ruleC).length : Nat) : Int))) (some ([.int .i64 (2 : Int)], [])) (chaseref2_LayoutFault_L3 fu (n + 4) fu (L.asks.map askC) (L.rules.map ruleC) (L.rules.map ruleC) ((L.rules.map ruleC).length : Nat) (0 : Int))) := by
  have h := err_loop L.asks (fun k i (_ : Unit) => chaseref2_LayoutFault_L1 fu (n + 4) k (L.asks.map askC) (L.rules.map ruleC) (L.asks.map askC) (L.asks.length : Nat) i) (fun i _ a => askE L.asks i a) (fun _ s _ => s)
    (fun _ => cnd (decide ((60 : Int) < (((L.rules.map ruleC).length : Nat) : Int))) (some ([.int .i64 (2 : Int)], [])) (chaseref2_LayoutFault_L3 fu (n + 4) fu (L.asks.map askC) (L.rules.map ruleC) (L.rules.map ruleC) ((L.rules.map ruleC).length : Nat) (0 : Int)))
    (fun k s => by rw [chaseref2_LayoutFault_L1_eq, cnd_decide, if_neg (by omega)])
    (fun k i s hi => by
      have hl := hL.choices L.asks[i] (List.getElem_mem _)
      have ha := hL.asks
      have hlt := fIx_lt (isF L.asks[i].field) L.asks 0 i ⟨L.asks[i], List.getElem?_eq_getElem hi, by simp [isF]⟩
      rw [Nat.zero_add] at hlt
      rw [chaseref2_LayoutFault_L1_eq, cnd_decide, if_pos (by omega), rdAsk hi]
      rw [RKey_ok fu (n + 1) L.asks[i].field, rB_some, askAt_ok fu (n + 1) L _ hL hfu, rI_some, LayoutFault_L2 fu n k L L.asks[i] i hfu hl (by omega)]
      unfold askIx
      rw [hlt]
      simp only [cnd_errc _ _ (show (5 : Int) ≠ 0 by decide), cnd_errc _ _ (show (6 : Int) ≠ 0 by decide), cnd_errc _ _ (show (3 : Int) ≠ 0 by decide), cnd_errc _ _ (show (2 : Int) ≠ 0 by decide), errO_errO, fnz_a, fnz_b]
      rfl) L.asks.length 0 fu () (by omega) (by have := hL.asks; omega)
  rw [List.length_map]
  exact h.trans (by rw [List.drop_zero])
theorem LayoutFault_ok (fu n : Nat) (L : Lay) (hL : LayOk L) (hfu : 1000000 ≤ fu) : ev fu (n + 5) 8 [layM L] [] = some ([.int .i64 (layE L)], []) := by
  rw [chaseref2_LayoutFault_eq, LayoutFault_L1 fu n L hL hfu, LayoutFault_L3 fu n L hL hfu]
  have e : some ([MV.int .i64 (errL (σ := Unit) (fun _ _ r => ruleE L.asks r) (fun _ s _ => s) 0 () L.rules).1], ([] : Bxs)) = errO (errL (σ := Unit) (fun _ _ r => ruleE L.asks r) (fun _ s _ => s) 0 () L.rules).1 (some ([.int .i64 0], [])) := (errO_fin _).symm
  rw [e]
  simp only [cnd_errc _ _ (show (3 : Int) ≠ 0 by decide), cnd_errc _ _ (show (2 : Int) ≠ 0 by decide), errO_errO, fnz_a, fnz_b, List.cons_append, List.nil_append]
  rw [errO_fin]
  rfl

/-! ### Values -/
def valsM (v : List Choice) : MV := .list (v.map choC)
/-- The errors of the choices of one field. -/
def inE (cs : List ByteArray) (b : Int) (c : ByteArray) : Int := fnz [if decide (sIx c cs < 0) = true then 8 else 0, if decide (sIx c cs ≤ b) = true then 7 else 0]
def insE (cs l : List ByteArray) : Int := (errL (fun _ b c => inE cs b c) (fun _ _ c => sIx c cs) 0 (-1) l).1
def askAtL (asks : List Ask) (f : ByteArray) : List ByteArray := match asks.find? (isF f) with
  | some a => a.choices
  | none => []
def manyL (asks : List Ask) (f : ByteArray) : Bool := match asks.find? (isF f) with
  | some a => a.many
  | none => false
def choiceE (asks : List Ask) (last : Int) (c : Choice) : Int :=
  fnz [if decide (askIx asks c.field < 0) = true then 8 else 0, if decide (askIx asks c.field ≤ last) = true then 7 else 0, if decide (((strs c.choices).length : Int) = 0) = true then 3 else 0,
    if (decide (1 < ((strs c.choices).length : Int)) && !manyL asks c.field) = true then 16 else 0, insE (askAtL asks c.field) c.choices]
def valE (asks : List Ask) (v : List Choice) : Int := fnz [if decide (40 < ((v.map choC).length : Int)) = true then 2 else 0, (errL (fun _ last c => choiceE asks last c) (fun _ _ c => askIx asks c.field) 0 (-1) v).1]
theorem cnd_lt (x : Int) (a b : Out) : cnd (decide (x < 0)) a b = if 0 ≤ x then b else a := by
  rw [cnd_decide]
  by_cases h : x < 0
  · rw [if_pos h, if_neg (by omega)]
  · rw [if_neg h, if_pos (by omega)]

theorem valuesError_L2 (fu n k1 : Nat) (L : Lay) (hL : LayOk L) (v : List Choice) (c : Choice) (i : Nat) (x5 x8 : Int) (k : Nat) (a : Ask) (ha : L.asks[k]? = some a) (hfu : 1000000 ≤ fu) (hl : c.choices.length ≤ 200000) (hi : i ≤ 400000) :
    review_valuesError_L2 fu (n + 4) k1 fu (L.asks.map askC) (L.rules.map ruleC) x5 (k : Nat) (-1 : Int) (v.map choC) (v.length : Nat) i (strs c.choices) ((strs c.choices).length : Nat) (0 : Int) =
      errO (insE a.choices c.choices) (review_valuesError_L1 fu (n + 4) k1 (L.asks.map askC) (L.rules.map ruleC) x5 (v.map choC) (v.length : Nat) ((i + 1 : Nat) : Int)) := by
  have hal := hL.choices a (List.mem_of_getElem? ha)
  have h := err_loop c.choices (fun q j (b : Int) => review_valuesError_L2 fu (n + 4) k1 q (L.asks.map askC) (L.rules.map ruleC) x5 (k : Nat) b (v.map choC) (v.length : Nat) i (strs c.choices) (c.choices.length : Nat) j) (fun _ b s => inE a.choices b s) (fun _ _ s => sIx s a.choices)
    (fun _ => review_valuesError_L1 fu (n + 4) k1 (L.asks.map askC) (L.rules.map ruleC) x5 (v.map choC) (v.length : Nat) ((i + 1 : Nat) : Int))
    (fun q b => by rw [review_valuesError_L2_eq, cnd_decide, if_neg (by omega), i64s (by omega)])
    (fun q j b hj => by
      rw [review_valuesError_L2_eq, cnd_decide, if_pos (by omega), strs, rdm hj, gd_pos (sS_len _)]
      simp only [sS, cel_zero, dS_str]
      rw [rdn ha, gd_pos (askC_len _)]
      simp only [askC, cel_1, dL_list]
      rw [IndexS_ok fu (n + 3) a.choices c.choices[j] (by omega) hfu, rI_some, When_ok, rI_some, When_ok, rI_some, First2_ok fu (n + 3) hfu, rI_some, cnd_err, i64s (by omega)]
      rfl) c.choices.length 0 fu (-1) (by omega) (by omega)
  rw [strs_len]
  exact h.trans (by rw [List.drop_zero]; rfl)
theorem valuesRight_L2 (fu n k1 : Nat) (L : Lay) (hL : LayOk L) (v : List Choice) (c : Choice) (i : Nat) (x5 x8 : Int) (k : Nat) (a : Ask) (ha : L.asks[k]? = some a) (hfu : 1000000 ≤ fu) (hl : c.choices.length ≤ 200000) (hi : i ≤ 400000) :
    chaseref2_valuesRight_L2 fu (n + 4) k1 fu (L.asks.map askC) (L.rules.map ruleC) x5 (k : Nat) (-1 : Int) (v.map choC) (v.length : Nat) i (strs c.choices) ((strs c.choices).length : Nat) (0 : Int) =
      errO (insE a.choices c.choices) (chaseref2_valuesRight_L1 fu (n + 4) k1 (L.asks.map askC) (L.rules.map ruleC) x5 (v.map choC) (v.length : Nat) ((i + 1 : Nat) : Int)) := by
  have hal := hL.choices a (List.mem_of_getElem? ha)
  have h := err_loop c.choices (fun q j (b : Int) => chaseref2_valuesRight_L2 fu (n + 4) k1 q (L.asks.map askC) (L.rules.map ruleC) x5 (k : Nat) b (v.map choC) (v.length : Nat) i (strs c.choices) (c.choices.length : Nat) j) (fun _ b s => inE a.choices b s) (fun _ _ s => sIx s a.choices)
    (fun _ => chaseref2_valuesRight_L1 fu (n + 4) k1 (L.asks.map askC) (L.rules.map ruleC) x5 (v.map choC) (v.length : Nat) ((i + 1 : Nat) : Int))
    (fun q b => by rw [chaseref2_valuesRight_L2_eq, cnd_decide, if_neg (by omega), i64s (by omega)])
    (fun q j b hj => by
      rw [chaseref2_valuesRight_L2_eq, cnd_decide, if_pos (by omega), strs, rdm hj, gd_pos (sS_len _)]
      simp only [sS, cel_zero, dS_str]
      rw [rdn ha, gd_pos (askC_len _)]
      simp only [askC, cel_1, dL_list]
      rw [IndexS_ok fu (n + 3) a.choices c.choices[j] (by omega) hfu, rI_some, cnd_errc _ _ (by decide), cnd_errc _ _ (by decide), errO_errO, i64s (by omega)]
      rfl) c.choices.length 0 fu (-1) (by omega) (by omega)
  rw [strs_len]
  exact h.trans (by rw [List.drop_zero]; rfl)
theorem valuesError_ok (fu n : Nat) (L : Lay) (hL : LayOk L) (v : List Choice) (hv : ValOk v) (hfu : 1000000 ≤ fu) : ev fu (n + 5) 161 [layM L, valsM v] [] = some ([.int .i64 (valE L.asks v)], []) := by
  have h := err_loop v (fun k i (last : Int) => review_valuesError_L1 fu (n + 4) k (L.asks.map askC) (L.rules.map ruleC) last (v.map choC) (v.length : Nat) i) (fun _ last c => choiceE L.asks last c) (fun _ _ c => askIx L.asks c.field) (fun _ => some ([.int .i64 0], []))
    (fun k s => by rw [review_valuesError_L1_eq, cnd_decide, if_neg (by omega)])
    (fun k i last hi => by
      have hl := hv.choices v[i] (List.getElem_mem _)
      have hlen := hv.len
      rw [review_valuesError_L1_eq, cnd_decide, if_pos (by omega), rdCho hi, ask_ok fu (n + 1) L _ hL hfu, rI_some]
      unfold choiceE manyL askAtL askIx
      rcases fIx_find (isF v[i].field) L.asks 0 with ⟨h1, h2⟩ | ⟨q, a, h1, h2, h3⟩
      · rw [h1, h2]; rfl
      · rw [h1, h3, Nat.zero_add, rdn h2, gd_pos (askC_len _), valuesError_L2 fu n k L hL v v[i] i _ 0 q a h2 hfu hl (by omega)]
        simp only [askC, cel_2, dB_bool, cnd_errc _ _ (show (8 : Int) ≠ 0 by decide), cnd_errc _ _ (show (16 : Int) ≠ 0 by decide), cnd_errc _ _ (show (3 : Int) ≠ 0 by decide), cnd_errc _ _ (show (7 : Int) ≠ 0 by decide), errO_errO, fnz_a, fnz_b]
        have hb : ∀ b : Bool, b = true ∨ b = false := fun b => by cases b <;> simp
        rcases hb (decide (1 < ((strs v[i].choices).length : Int))) with hd | hd <;> rcases hb a.many with hm | hm <;> simp only [hd, hm, cnd_true, cnd_false, errO_errO, fnz_a, fnz_b, List.cons_append, List.nil_append] <;> rfl) v.length 0 fu (-1) (by omega) (by have := hv.len; omega)
  unfold valsM
  rw [review_valuesError_eq, List.length_map]
  rw [List.drop_zero, errO_fin] at h
  have h' : review_valuesError_L1 fu (n + 4) fu (L.asks.map askC) (L.rules.map ruleC) (-1) (v.map choC) (v.length : Nat) (0 : Int) = _ := h
  rw [h']
  unfold valE; rw [List.length_map]
  generalize (errL _ _ _ _ _).1 = E
  rw [cnd_errc _ _ (by decide), ← errO_fin E, errO_errO, errO_fin]
theorem valuesRight_ok (fu n : Nat) (L : Lay) (hL : LayOk L) (v : List Choice) (hv : ValOk v) (hfu : 1000000 ≤ fu) : ev fu (n + 5) 89 [layM L, valsM v] [] = some ([.int .i64 (valE L.asks v)], []) := by
  have h := err_loop v (fun k i (last : Int) => chaseref2_valuesRight_L1 fu (n + 4) k (L.asks.map askC) (L.rules.map ruleC) last (v.map choC) (v.length : Nat) i) (fun _ last c => choiceE L.asks last c) (fun _ _ c => askIx L.asks c.field) (fun _ => some ([.int .i64 0], []))
    (fun k s => by rw [chaseref2_valuesRight_L1_eq, cnd_decide, if_neg (by omega)])
    (fun k i last hi => by
      have hl := hv.choices v[i] (List.getElem_mem _)
      have hlen := hv.len
      rw [chaseref2_valuesRight_L1_eq, cnd_decide, if_pos (by omega), rdCho hi, askAt_ok fu (n + 1) L _ hL hfu, rI_some]
      unfold choiceE manyL askAtL askIx
      rcases fIx_find (isF v[i].field) L.asks 0 with ⟨h1, h2⟩ | ⟨q, a, h1, h2, h3⟩
      · rw [h1, h2]; rfl
      · rw [h1, h3, Nat.zero_add, rdn h2, gd_pos (askC_len _), valuesRight_L2 fu n k L hL v v[i] i _ 0 q a h2 hfu hl (by omega)]
        simp only [askC, cel_2, dB_bool, cnd_errc _ _ (show (8 : Int) ≠ 0 by decide), cnd_errc _ _ (show (16 : Int) ≠ 0 by decide), cnd_errc _ _ (show (3 : Int) ≠ 0 by decide), cnd_errc _ _ (show (7 : Int) ≠ 0 by decide), errO_errO, fnz_a, fnz_b]
        have hb : ∀ b : Bool, b = true ∨ b = false := fun b => by cases b <;> simp
        rcases hb (decide (1 < ((strs v[i].choices).length : Int))) with hd | hd <;> rcases hb a.many with hm | hm <;> simp only [hd, hm, cnd_true, cnd_false, errO_errO, fnz_a, fnz_b, List.cons_append, List.nil_append] <;> rfl) v.length 0 fu (-1) (by omega) (by have := hv.len; omega)
  unfold valsM
  rw [chaseref2_valuesRight_eq, List.length_map]
  rw [List.drop_zero, errO_fin] at h
  have h' : chaseref2_valuesRight_L1 fu (n + 4) fu (L.asks.map askC) (L.rules.map ruleC) (-1) (v.map choC) (v.length : Nat) (0 : Int) = _ := h
  rw [h']
  unfold valE; rw [List.length_map]
  generalize (errL _ _ _ _ _).1 = E
  rw [cnd_errc _ _ (by decide), ← errO_fin E, errO_errO, errO_fin]
/-- The error of values with their layout. -/
def valsE (L : Lay) (v : List Choice) : Int := fnz [layE L, valE L.asks v]
end Go.Pv
