/- Chapter 6: decisions that streams make; deciding; the law DecisionChecks. -/
import Derived.Test.YtgndakamacnegaaGreatDoorC8
set_option linter.unusedSimpArgs false
set_option linter.unusedVariables false
set_option maxRecDepth 100000
namespace Go.Pv
open Go Go.Proofs

theorem itemId_ok (fu n : Nat) (x : Int) (h0 : 0 ≤ x) (h1 : x < 4) : ∃ s, ev fu (n + 1) 29 [.int .i64 x] [] = some ([.str s], []) := by
  rw [chasemake_itemId_eq]
  obtain h | h | h | h : x = 0 ∨ x = 1 ∨ x = 2 ∨ x = 3 := by omega
  all_goals subst h; exact ⟨_, rfl⟩
/-- The rest of a round: a decision is added or not. -/
theorem Decisions_J1 (fu n k1 : Nat) (L : Lay) (hL : LayOk L) (ls : List Int) (hfu : 1000000 ≤ fu) (N i : Nat) (ds : List Dec) (a : Int) (d : Dec) (hd : ValOk d.vals) (hds : ds.length ≤ 100000) (hi : i < 100000) (h0 : 0 ≤ a) (h1 : a < 4000000000000000000) (R : Int → Out → Prop)
    (hR : ∀ (ds' : List Dec) (a' : Int), (ds' = ds ∨ ds' = ds ++ [d]) → a ≤ a' → a' ≤ a + 1 → R a' (chasemake_Stream_Decisions_L1 fu (n + 7) k1 (L.asks.map askC) (L.rules.map ruleC) (ds'.map decC) (N : Nat) ((i + 1 : Nat) : Int) (ls.map i1) a')) :
    ∃ a', R a' (chasemake_Stream_Decisions_J1 fu (n + 7) k1 (L.asks.map askC) (L.rules.map ruleC) (ds.map decC) (N : Nat) (i : Nat) (ls.map i1) a d.no d.at_ d.rev d.item d.sec (d.vals.map choC)) := by
  have g1 := LayoutFault_ok fu (n + 2) L hL hfu
  have g3 := DecisionsFault_ok fu n L hL [⟨1, d.at_, d.rev, d.item, false, d.vals⟩] (fun x hx => by simp at hx; subst hx; exact hd) (by simp) hfu
  obtain ⟨b, g2⟩ := Flip_ok fu (n + 4) ls a 40 h0 (by omega)
  have e : ds.map decC ++ [[.int .i64 d.no, .int .i64 d.at_, .str d.rev, .str d.item, .bool d.sec, .list (d.vals.map choC)]] = (ds ++ [d]).map decC := by rw [List.map_append]; rfl
  have hg : ∀ o : Out, gL (List.length (ds.map decC) + List.length ([[.int .i64 d.no, .int .i64 d.at_, .str d.rev, .str d.item, .bool d.sec, .list (d.vals.map choC)]] : List (List MV))) o = o := fun o => gL_pos (by simp; omega) o
  unfold layM at g1 g3
  simp only [List.map_cons, List.map_nil, decC] at g3
  rw [chasemake_Stream_Decisions_J1_eq]
  simp only [g1, g2, g3, rI_some, skB_some, hg, e, i64s (show i < 9223372036854775807 by omega)]
  have r1 := hR ds (a + 1) (.inl rfl) (by omega) (by omega)
  have r2 := hR (ds ++ [d]) (a + 1) (.inr rfl) (by omega) (by omega)
  have r3 := hR (ds ++ [d]) a (.inr rfl) (by omega) (by omega)
  have hb : ∀ b : Bool, b = true ∨ b = false := fun b => by cases b <;> simp
  rcases hb (decide (layE L = 0)) with q1 | q1
  · rw [q1, cnd_true]
    refine ⟨a + 1, ?_⟩
    cases b
    · simp only [Bool.not_false, cnd_true]
      generalize decsE L _ = z
      rcases hb (decide (z = 0)) with q2 | q2
      · simp only [q2, Bool.not_true, cnd_false]; exact r2
      · simp only [q2, Bool.not_false, cnd_true]; exact r1
    · simp only [Bool.not_true, cnd_false]; exact r2
  · rw [q1, cnd_false]
    exact ⟨a, r3⟩
theorem Decisions_L1 (fu n : Nat) (L : Lay) (hL : LayOk L) (ls : List Int) (hfu : 1000000 ≤ fu) (N : Nat) (hN : N ≤ 1000) : ∀ (m i k1 : Nat) (at_ : Int) (ds : List Dec), i + m = N → m < k1 → ds.length ≤ i → (∀ d ∈ ds, ValOk d.vals) → 0 ≤ at_ → at_ + 1001030 * m < 2000000000000000000 →
    ∃ (ds' : List Dec) (a : Int), ds'.length ≤ N ∧ (∀ d ∈ ds', ValOk d.vals) ∧ 0 ≤ a ∧ a ≤ at_ + 1001030 * m ∧ chasemake_Stream_Decisions_L1 fu (n + 7) k1 (L.asks.map askC) (L.rules.map ruleC) (ds.map decC) (N : Nat) (i : Nat) (ls.map i1) at_ = some ([.ref 1], [some (.box [.list (ls.map i1), .int .i64 a]), some (.row false 6 (ds'.map decC) [])])
  | m, i, 0, at_, ds, hi, hk, hr, hc, h0, h1 => by omega
  | 0, i, k1 + 1, at_, ds, hi, hk, hr, hc, h0, h1 => by
    rw [chasemake_Stream_Decisions_L1_eq, cnd_decide, if_neg (by omega)]
    exact ⟨ds, at_, by omega, hc, by omega, by omega, rfl⟩
  | m + 1, i, k1 + 1, at_, ds, hi, hk, hr, hc, h0, h1 => by
    obtain ⟨x5, _, g1⟩ := Pick_okL fu (n + 4) ls at_ [[.int .i64 5], [.int .i64 5], [.int .i64 10], [.int .i64 10], [.int .i64 20], [.int .i64 100]] [5, 5, 10, 10, 20, 100] rfl h0 (by omega) (by simp) (by simp)
    obtain ⟨x10, _, g2⟩ := some10_ok fu (n + 4) ls (at_ + 1) [[.str ⟨#[97, 110, 110]⟩], [.str ⟨#[98, 111, 98]⟩], [.str ⟨#[99, 105, 100]⟩]] [⟨#[97, 110, 110]⟩, ⟨#[98, 111, 98]⟩, ⟨#[99, 105, 100]⟩] rfl (by omega) (by omega) (by simp) (by simp)
    obtain ⟨x15, hx15, g3⟩ := Next_ok fu (n + 5) ls (at_ + 1 + 1) 4 (by omega) (by omega)
    have hx15 := hx15 (by omega) (by omega)
    obtain ⟨x16, g4⟩ := itemId_ok fu (n + 6) x15 hx15.1 hx15.2
    obtain ⟨x21, g5⟩ := Flip_ok fu (n + 4) ls (at_ + 1 + 1 + 1) 3 (by omega) (by omega)
    obtain ⟨v, a1, hv, b0, b1, g6⟩ := Values_ok fu (n + 3) L hL ls (at_ + 1 + 1 + 1 + 1) (by omega) (by omega) hfu
    obtain ⟨x42, g7⟩ := Flip_ok fu (n + 4) ls a1 40 b0 (by omega)
    have fin : ∀ (d : Dec) (a : Int), d.vals = v → 0 ≤ a → a ≤ a1 + 10 → ∃ (ds' : List Dec) (a' : Int), ds'.length ≤ N ∧ (∀ d ∈ ds', ValOk d.vals) ∧ 0 ≤ a' ∧ a' ≤ at_ + 1001030 * (m + 1 : Nat) ∧ chasemake_Stream_Decisions_J1 fu (n + 7) k1 (L.asks.map askC) (L.rules.map ruleC) (ds.map decC) (N : Nat) (i : Nat) (ls.map i1) a d.no d.at_ d.rev d.item d.sec (v.map choC) = some ([.ref 1], [some (.box [.list (ls.map i1), .int .i64 a']), some (.row false 6 (ds'.map decC) [])]) := by
      intro d a hdv ha ha2
      subst hdv
      obtain ⟨_, h⟩ := Decisions_J1 fu n k1 L hL ls hfu N i ds a d hv (by omega) (by omega) (by omega) (by omega) (fun _ o => ∃ (ds' : List Dec) (a' : Int), ds'.length ≤ N ∧ (∀ d ∈ ds', ValOk d.vals) ∧ 0 ≤ a' ∧ a' ≤ at_ + 1001030 * (m + 1 : Nat) ∧ o = some ([.ref 1], [some (.box [.list (ls.map i1), .int .i64 a']), some (.row false 6 (ds'.map decC) [])]))
        (fun ds1 a2 hds hb1 hb2 => by
          have hl1 : ds1.length ≤ i + 1 := by rcases hds with e | e <;> subst e <;> (try simp only [List.length_append, List.length_cons, List.length_nil]) <;> omega
          have ho1 : ∀ d ∈ ds1, ValOk d.vals := by
            rcases hds with e | e
            · subst e; exact hc
            · subst e; intro x hx
              rcases List.mem_append.1 hx with h | h
              · exact hc x h
              · simp at h; subst h; exact hv
          obtain ⟨ds', a', p1, p2, p3, p4, p5⟩ := Decisions_L1 fu n L hL ls hfu N hN m (i + 1) k1 a2 ds1 (by omega) (by omega) hl1 ho1 (by omega) (by omega)
          exact ⟨ds', a', p1, p2, p3, by omega, p5⟩)
      exact h
    unfold layM at g6
    rw [chasemake_Stream_Decisions_L1_eq, cnd_decide, if_pos (by omega)]
    simp only [eqM_self', g1, g2, g3, g4, g5, skI_some, skS_some, skB_some, rS_some]
    rw [g6]
    simp only [callE_some', unX_cons, dBx_box, unC_cons, dL_list, dI_int, unN_nil, unXN_nil, dRw_row, dRf_ref, g7, skB_some]
    cases x42
    · rw [cnd_false]
      exact fin ⟨_, _, _, _, _, v⟩ (a1 + 1) rfl (by omega) (by omega)
    · obtain ⟨x47, _, g8⟩ := Next_ok fu (n + 5) ls (a1 + 1) 4 (by omega) (by omega)
      obtain ⟨x52, a3, c0, c1, g9⟩ := odd10_ok fu (n + 3) ls (a1 + 1 + 1) 1 9 (by omega) (by omega) (by omega) (by omega) (by omega)
      obtain ⟨x57, a4, d0, d1, g10⟩ := odd10_ok fu (n + 3) ls (a1 + 1 + 1) 0 5761439 (by omega) (by omega) (by omega) (by omega) (by omega)
      obtain ⟨x62, _, g11⟩ := some10_ok fu (n + 4) ls (a1 + 1 + 1) [[.str ⟨#[]⟩], [.str ⟨#[65]⟩]] [⟨#[]⟩, ⟨#[65]⟩] rfl (by omega) (by omega) (by simp) (by simp)
      rw [cnd_true, g8, skI_some, g9, skI_some, g10, skI_some, g11, skS_some, skS_some, cnd_decide, cnd_decide, cnd_decide]
      split
      · exact fin ⟨_, _, _, _, _, v⟩ _ rfl c0 (by omega)
      · split
        · exact fin ⟨_, _, _, _, _, v⟩ _ rfl d0 (by omega)
        · split
          · exact fin ⟨_, _, _, _, _, v⟩ _ rfl (by omega) (by omega)
          · exact fin ⟨_, _, _, _, _, v⟩ _ rfl (by omega) (by omega)
theorem Decisions_ok (fu n : Nat) (L : Lay) (hL : LayOk L) (ls : List Int) (at_ : Int) (N : Nat) (hN : N ≤ 1000) (h0 : 0 ≤ at_) (h1 : at_ < 1000000000000000000) (hfu : 1000000 ≤ fu) :
    ∃ (ds : List Dec) (a : Int), ds.length ≤ N ∧ (∀ d ∈ ds, ValOk d.vals) ∧ 0 ≤ a ∧ a ≤ at_ + 1001030000 ∧ ev fu (n + 8) 6 [.ptr 0 0, layM L, .int .i64 (N : Nat)] (sb ls at_) = some ([.ref 1], [some (.box [.list (ls.map i1), .int .i64 a]), some (.row false 6 (ds.map decC) [])]) := by
  obtain ⟨ds, a, p1, p2, p3, p4, p5⟩ := Decisions_L1 fu n L hL ls hfu N hN N 0 fu at_ [] (by omega) (by omega) (by simp) (by simp) h0 (by omega)
  refine ⟨ds, a, p1, p2, p3, by omega, ?_⟩
  unfold layM
  rw [chasemake_Stream_Decisions_eq]
  exact p5
end Go.Pv
