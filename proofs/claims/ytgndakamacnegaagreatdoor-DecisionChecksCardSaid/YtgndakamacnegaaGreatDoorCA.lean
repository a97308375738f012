/- Chapter 6: the law DecisionChecks. -/
import Derived.Test.YtgndakamacnegaaGreatDoorC9
set_option linter.unusedSimpArgs false
set_option linter.unusedVariables false
set_option maxRecDepth 100000
namespace Go.Pv
open Go Go.Proofs

theorem fnz_x0 (a : Int) : fnz [a, 0] = a := by
  simp only [fnz]
  split
  · rename_i h; simp [h]
  · rfl
def decN (ds : List Dec) (d : Dec) : Dec := { d with no := ((ds.length + 1 : Nat) : Int) }
theorem Decide_ok (fu n : Nat) (L : Lay) (hL : LayOk L) (ds : List Dec) (hds : ∀ d ∈ ds, ValOk d.vals) (hl : ds.length ≤ 100) (d : Dec) (hd : ValOk d.vals) (hfu : 1000000 ≤ fu) :
    ev fu (n + 8) 11 [layM L, .list (ds.map decC), .agg (decC d)] [] = if decsE L ds = 0 then (if decE L ((ds.length + 1 : Nat) : Int) (decN ds d) = 0 then some ([.list ((ds ++ [decN ds d]).map decC), .int .i64 0], []) else some ([.list [], .int .i64 (decE L ((ds.length + 1 : Nat) : Int) (decN ds d))], [])) else some ([.list [], .int .i64 (decsE L ds)], []) := by
  have h1 := Check_ok fu n L hL ds hds (by omega) hfu
  have h2 := decisionError_ok fu (n + 1) L hL (decN ds d) hd (ds.length : Nat) hfu
  have h3 := copied_ok fu (n + 4) ds hds (by omega) hfu
  have h4 := copied_ok fu (n + 4) [decN ds d] (fun x hx => by simp at hx; subst hx; exact hd) (by simp) hfu
  rw [i64s (by omega)] at h2
  have hz : decide (((ds.length : Nat) : Int) = 5000) = false := decide_eq_false (by omega)
  simp only [List.map_cons, List.map_nil] at h4
  have hdec : decC (decN ds d) = [.int .i64 ((ds.length + 1 : Nat) : Int), .int .i64 d.at_, .str d.rev, .str d.item, .bool d.sec, .list (d.vals.map choC)] := rfl
  have e : ds.map decC ++ [decC (decN ds d)] = (ds ++ [decN ds d]).map decC := by rw [List.map_append]; rfl
  have hw : wid 6 [decC (decN ds d)] = true := rfl
  have hg : ∀ o : Out, gL (ds.length + List.length [decC (decN ds d)]) o = o := fun o => gL_pos (by simp; omega) o
  unfold layM at *
  rw [hdec] at h2 h4 e hw hg
  show ev fu (n + 8) _ [_, _, .agg [.int .i64 d.no, .int .i64 d.at_, .str d.rev, .str d.item, .bool d.sec, .list (d.vals.map choC)]] [] = _
  rw [review_Decide_eq]
  simp only [h1, rI_some, When_ok, First2_ok fu (n + 6) hfu, List.length_map, hz, Bool.false_eq_true, if_false, fnz_x0, i64s (show ds.length < 9223372036854775807 by omega), h2, h3, h4, rO_some, eqM_self', hw, sB_true, hg, e, eqO_self]
  by_cases q : decsE L ds = 0
  · rw [if_pos q, decide_eq_true q, Bool.not_true, cnd_false]
    by_cases q2 : decE L ((ds.length + 1 : Nat) : Int) (decN ds d) = 0
    · rw [if_pos q2, decide_eq_true q2, Bool.not_true, cnd_false]
    · rw [if_neg q2, decide_eq_false q2, Bool.not_false, cnd_true]
  · rw [if_neg q, decide_eq_false q, Bool.not_false, cnd_true]
theorem DecideOf_ok (fu n : Nat) (L : Lay) (hL : LayOk L) (ds : List Dec) (hds : ∀ d ∈ ds, ValOk d.vals) (hl : ds.length ≤ 100) (d : Dec) (hd : ValOk d.vals) (hfu : 1000000 ≤ fu) :
    ev fu (n + 8) 15 [layM L, .list (ds.map decC), .agg (decC d)] [] = if decE L ((ds.length + 1 : Nat) : Int) (decN ds d) = 0 then some ([.list ((ds ++ [decN ds d]).map decC), .int .i64 0], []) else some ([.list [], .int .i64 (decE L ((ds.length + 1 : Nat) : Int) (decN ds d))], []) := by
  have h2 := decisionFault_ok fu (n + 1) L hL (decN ds d) hd ((ds.length + 1 : Nat) : Int) hfu
  have h3 := CloneD_ok fu (n + 6) ds (by omega)
  have hz : decide ((5000 : Int) ≤ ((ds.length : Nat) : Int)) = false := decide_eq_false (by omega)
  have hdec : decC (decN ds d) = [.int .i64 ((ds.length + 1 : Nat) : Int), .int .i64 d.at_, .str d.rev, .str d.item, .bool d.sec, .list (d.vals.map choC)] := rfl
  have e : ds.map decC ++ [decC (decN ds d)] = (ds ++ [decN ds d]).map decC := by rw [List.map_append]; rfl
  have hg : ∀ o : Out, gL (ds.length + List.length [decC (decN ds d)]) o = o := fun o => gL_pos (by simp; omega) o
  unfold layM at *
  rw [hdec] at h2 e hg
  show ev fu (n + 8) _ [_, _, .agg [.int .i64 d.no, .int .i64 d.at_, .str d.rev, .str d.item, .bool d.sec, .list (d.vals.map choC)]] [] = _
  rw [chaseref2_DecideOf_eq]
  simp only [rI_some, List.length_map, hz, cnd_false, i64s (show ds.length < 9223372036854775807 by omega), h2, h3, rO_some, eqM_self', hg, e, eqO_self]
  by_cases q2 : decE L ((ds.length + 1 : Nat) : Int) (decN ds d) = 0
  · rw [if_pos q2, decide_eq_true q2, Bool.not_true, cnd_false]
  · rw [if_neg q2, decide_eq_false q2, Bool.not_false, cnd_true]
theorem DecisionChecks_J1 (fu n : Nat) (L : Lay) (hL : LayOk L) (ds : List Dec) (hds : ∀ d ∈ ds, ValOk d.vals) (hl : ds.length ≤ 100) (d : Dec) (hd : ValOk d.vals) (hfu : 1000000 ≤ fu) :
    chaselaw2_DecisionChecks_J1 fu (n + 20) (ds.map decC) (L.asks.map askC) (L.rules.map ruleC) d.no d.at_ d.rev d.item d.sec (d.vals.map choC) = some ([.bool true], []) := by
  have g1 := Decide_ok fu (n + 12) L hL ds hds hl d hd hfu
  have g2 := DecisionsFault_ok fu (n + 13) L hL ds hds (by omega) hfu
  have g3 := Check_ok fu (n + 13) L hL ds hds (by omega) hfu
  have g4 := decides_ok fu n hfu
  have g5 := DecideOf_ok fu (n + 12) L hL ds hds hl d hd hfu
  have g6 := EqualFuncD_same fu (n + 14) (ds ++ [decN ds d]) (fun x hx => by
    rcases List.mem_append.1 hx with h | h
    · exact hds x h
    · simp at h; subst h; exact hd) (by simp; omega) hfu
  have g7 := EqualFuncD_same fu (n + 14) [] (by simp) (by simp) hfu
  have hdec : decC d = [.int .i64 d.no, .int .i64 d.at_, .str d.rev, .str d.item, .bool d.sec, .list (d.vals.map choC)] := rfl
  unfold layM at *
  rw [hdec] at g1 g5
  rw [chaselaw2_DecisionChecks_J1_eq, g1]
  by_cases q : decsE L ds = 0
  · rw [if_pos q]
    rw [q] at g2 g3
    by_cases q2 : decE L ((ds.length + 1 : Nat) : Int) (decN ds d) = 0
    · rw [if_pos q2] at g5 ⊢
      simp only [callE_some', unXN_nil, unC_cons, dL_list, dI_int, unN_nil, g2, g3, rI_some, decide_true, Bool.not_true, cnd_false, g5, cnd_true, g6, rB_some, g4]
    · rw [if_neg q2] at g5 ⊢
      simp only [List.map_nil] at g7
      simp only [callE_some', unXN_nil, unC_cons, dL_list, dI_int, unN_nil, g2, g3, rI_some, decide_true, Bool.not_true, cnd_false, g5, cnd_true, g7, rB_some, g4]
  · rw [if_neg q]
    have hq : decide (decsE L ds = 0) = false := decide_eq_false q
    simp only [callE_some', unXN_nil, unC_cons, dL_list, dI_int, unN_nil, g2, g3, rI_some, decide_true, Bool.not_true, cnd_false, hq, Bool.not_false, cnd_true, List.length_nil]
    rw [decide_eq_true (show ((0 : Nat) : Int) = 0 from rfl), cnd_true, g4, rB_some]
theorem rdStr {xs : List ByteArray} {x : Int} (h0 : 0 ≤ x) (h1 : x.toNat < xs.length) (K : ByteArray → Out) : rd (strs xs) x (fun e => gd (e.length = 1) (cel e 0 fun m => dS m K)) = K xs[x.toNat] := by
  obtain ⟨y, rfl⟩ : ∃ y : Nat, x = y := ⟨x.toNat, by omega⟩
  simp only [Int.toNat_natCast] at h1 ⊢
  unfold strs
  rw [rdm h1, gd_pos (sS_len _)]
  simp only [sS, cel_zero, dS_str]
theorem DecisionChecks_ok (fu n : Nat) (ls : List Int) (hfu : 1000000 ≤ fu) : ev fu (n + 30) 3 [.list (ls.map i1)] [] = some ([.bool true], []) := by
  obtain ⟨L, a, r, hL, a0, a1, hr, g1⟩ := Layout_ok fu (n + 24) ls 0 (by omega) (by omega) hfu
  obtain ⟨x25, hx25, g2⟩ := Range_ok fu (n + 26) ls a 0 6 a0 (by omega) (by omega) (by omega) (by omega)
  obtain ⟨N, rfl⟩ : ∃ N : Nat, x25 = N := ⟨x25.toNat, by omega⟩
  obtain ⟨ds, b, hds, hok, b0, b1, g3⟩ := Decisions_ok fu (n + 21) L hL ls (a + 1) N (by omega) (by omega) (by omega) hfu
  obtain ⟨x46, _, g4⟩ := Range_ok fu (n + 26) ls b 0 9 b0 (by omega) (by omega) (by omega) (by omega)
  obtain ⟨x51, _, g5⟩ := Pick_okL fu (n + 26) ls (b + 1) [[.int .i64 5], [.int .i64 30], [.int .i64 0], [.int .i64 (-1)], [.int .i64 5761440]] [5, 30, 0, -1, 5761440] rfl (by omega) (by omega) (by simp) (by simp)
  obtain ⟨x56, h56, g6⟩ := Pick_okL fu (n + 26) ls (b + 1 + 1) [[.int .i64 0], [.int .i64 0], [.int .i64 1], [.int .i64 1], [.int .i64 2], [.int .i64 3]] [0, 0, 1, 1, 2, 3] rfl (by omega) (by omega) (by simp) (by simp)
  obtain ⟨x64, h64, g7⟩ := Pick_okL fu (n + 26) ls (b + 1 + 1 + 1) [[.int .i64 0], [.int .i64 0], [.int .i64 1], [.int .i64 2]] [0, 0, 1, 2] rfl (by omega) (by omega) (by simp) (by simp)
  obtain ⟨x72, g8⟩ := Flip_ok fu (n + 26) ls (b + 1 + 1 + 1 + 1) 3 (by omega) (by omega)
  obtain ⟨v, c, hv, c0, c1, g9⟩ := Values_ok fu (n + 25) L hL ls (b + 1 + 1 + 1 + 1 + 1) (by omega) (by omega) hfu
  have k1 : 0 ≤ x56 ∧ x56.toNat < 4 := by simp at h56; omega
  have k2 : 0 ≤ x64 ∧ x64.toNat < 3 := by simp at h64; omega
  obtain ⟨s1, r1⟩ : ∃ s, ∀ K : ByteArray → Out, rd [[.str ⟨#[97, 110, 110]⟩], [.str ⟨#[98, 111, 98]⟩], [.str ⟨#[]⟩], [.str ⟨#[65]⟩]] x56 (fun e => gd (e.length = 1) (cel e 0 fun m => dS m K)) = K s := ⟨_, fun K => rdStr (xs := [⟨#[97, 110, 110]⟩, ⟨#[98, 111, 98]⟩, ⟨#[]⟩, ⟨#[65]⟩]) k1.1 k1.2 K⟩
  obtain ⟨s2, r2⟩ : ∃ s, ∀ K : ByteArray → Out, rd [[.str ⟨#[105, 97]⟩], [.str ⟨#[105, 98]⟩], [.str ⟨#[]⟩]] x64 (fun e => gd (e.length = 1) (cel e 0 fun m => dS m K)) = K s := ⟨_, fun K => rdStr (xs := [⟨#[105, 97]⟩, ⟨#[105, 98]⟩, ⟨#[]⟩]) k2.1 k2.2 K⟩
  have g10 := DecisionChecks_J1 fu (n + 9) L hL ds hok (by omega) ⟨x46, x51, s1, s2, x72, v⟩ hv hfu
  unfold layM at *
  rw [chaselaw2_DecisionChecks_eq, g1]
  simp only [callE_some', unX_cons, dBx_box, unC_cons, dL_list, dI_int, unN_nil, unXN_nil, dA_agg, hr, eqM_self', g2, skI_some]
  rw [g3]
  simp only [callE_some', unX_cons, dBx_box, unC_cons, dL_list, dI_int, unN_nil, unXN_nil, dA_agg, dRw_row, dRf_ref, eqM_self', g4, g5, g6, g7, g8, skI_some, skB_some, r1, r2]
  simp only [g9, callE_some', unX_cons, dBx_box, unC_cons, dL_list, dI_int, unN_nil, unXN_nil, dA_agg, dRw_row, dRf_ref, eqM_self', g4, g5, g6, g7, g8, skI_some, skB_some, r1, r2, g10, eqO_self]
end Go.Pv
