/- Chapter 6: layouts and values that streams make. -/
import Derived.Test.YtgffjfhdcdpolaaGreatDoorC4
set_option linter.unusedSimpArgs false
set_option linter.unusedVariables false
set_option maxRecDepth 100000
namespace Go.Pv
open Go Go.Proofs

theorem eqO_box (r : Res) (cs : List MV) : eqO (some (r, [some (.box cs)])) (some (r, [some (.box cs)])) = some (r, [some (.box cs)]) := by
  simp [eqO, mvBL_self, bxB, obB]
theorem ixG_n {α : Type} {n i : Nat} (h : i < n) (o : Option α) : ixG n (i : Int) o = o := ixG_pos (by omega) (by simpa using h) o
/-- Texts of streams are short. -/
def szS (s : ByteArray) : Prop := s.size ≤ 10
theorem sz_mem {x : ByteArray} {xs : List ByteArray} (h : x ∈ xs) (hb : xs.all (fun c => Nat.ble c.size 10) = true) : szS x := by
  have := List.all_eq_true.1 hb x h
  exact Nat.le_of_ble_eq_true this
structure RuleS (r : Rule) : Prop where
  field : szS r.field
  iff' : szS r.iff'
  other : szS r.other
  thn : szS r.thn
structure AskS (a : Ask) : Prop where
  field : szS a.field
  len : a.choices.length ≤ 3
  choices : ∀ c ∈ a.choices, szS c
/-- A layout of streams is small. -/
structure LayS (L : Lay) : Prop where
  alen : L.asks.length ≤ 3
  rlen : L.rules.length ≤ 3
  asks : ∀ a ∈ L.asks, AskS a
  rules : ∀ r ∈ L.rules, RuleS r
theorem LayS.ok {L : Lay} (h : LayS L) : LayOk L := ⟨by have := h.alen; omega, by have := h.rlen; omega, fun a ha => by have := (h.asks a ha).len; omega⟩
/-- A right rule. -/
structure RuleR (r : Rule) : Prop where
  s : RuleS r
  kind : r.kind = 1 ∨ r.kind = 2
theorem RightLayout_L1 (fu n N : Nat) (hN : N ≤ 2) (ls : List Int) (es b0 b1 : List (List MV)) : ∀ (m i k1 : Nat) (at_ : Int) (R : List Rule), i + m = N → m < k1 → R.length ≤ i → (∀ r ∈ R, RuleR r) → 0 ≤ at_ → at_ + 6 * m < 4000000000000000000 →
    ∃ (R' : List Rule) (a : Int), R'.length ≤ N ∧ (∀ r ∈ R', RuleR r) ∧ 0 ≤ a ∧ a ≤ at_ + 6 * m ∧ chasemake_Stream_RightLayout_L1 fu (n + 3) k1 (N : Nat) (i : Nat) (ls.map i1) at_ b0 b1 es (R.map ruleC) = some ([.agg [.ref 1, .ref 2]], [some (.box [.list (ls.map i1), .int .i64 a]), some (.row false 4 es []), some (.row false 5 (R'.map ruleC) [])])
  | m, i, 0, at_, R, hi, hk, hr, hR, h0, h1 => by omega
  | 0, i, k1 + 1, at_, R, hi, hk, hr, hR, h0, h1 => by
    refine ⟨R, at_, by omega, hR, h0, by omega, ?_⟩
    rw [chasemake_Stream_RightLayout_L1_eq, cnd_decide, if_neg (by omega)]
  | m + 1, i, k1 + 1, at_, R, hi, hk, hr, hR, h0, h1 => by
    obtain ⟨x1, q1, g1⟩ := Pick_okL fu n ls at_ [[.int .i64 1], [.int .i64 1], [.int .i64 2]] [1, 1, 2] rfl h0 (by omega) (by simp) (by simp)
    obtain ⟨x2, q2, g2⟩ := some10_ok fu n ls (at_ + 1) [[.str ⟨#[121, 101, 115]⟩], [.str ⟨#[110, 111]⟩]] [⟨#[121, 101, 115]⟩, ⟨#[110, 111]⟩] rfl (by omega) (by omega) (by simp) (by simp)
    obtain ⟨x3, q3, g3⟩ := some10_ok fu n ls (at_ + 1 + 1) [[.str ⟨#[]⟩], [.str ⟨#[100, 101, 97, 108]⟩], [.str ⟨#[104, 114]⟩]] [⟨#[]⟩, ⟨#[100, 101, 97, 108]⟩, ⟨#[104, 114]⟩] rfl (by omega) (by omega) (by simp) (by simp)
    obtain ⟨b, g4⟩ := Flip_ok fu n ls (at_ + 1 + 1 + 1) 3 (by omega) (by omega)
    have hk1 : x1 = 1 ∨ x1 = 2 := by simp at q1; omega
    have hadd : ∀ r, RuleR r → ∀ z ∈ R ++ [r], RuleR z := fun r hr z hz => by
      rcases List.mem_append.1 hz with h | h
      · exact hR z h
      · simp at h; subst h; exact hr
    rw [chasemake_Stream_RightLayout_L1_eq, cnd_decide, if_pos (by omega), g1, skI_some, g2, skS_some, g3, skS_some, g4, skB_some]
    cases b
    · rw [cnd_false, gL_pos (by simp; omega), i64s (by omega)]
      have e : R.map ruleC ++ [[.int .i64 x1, .str (⟨#[114, 101, 115, 112]⟩ : ByteArray), .str x2, .str (⟨#[119, 104, 121]⟩ : ByteArray), .str x3]] = (R ++ [(⟨x1, ⟨#[114, 101, 115, 112]⟩, x2, ⟨#[119, 104, 121]⟩, x3⟩ : Rule)]).map ruleC := by rw [List.map_append]; rfl
      rw [e]
      obtain ⟨R', a, p1, p0, p2, p3, p4⟩ := RightLayout_L1 fu n N hN ls es b0 b1 m (i + 1) k1 (at_ + 1 + 1 + 1 + 1) (R ++ [(⟨x1, ⟨#[114, 101, 115, 112]⟩, x2, ⟨#[119, 104, 121]⟩, x3⟩ : Rule)]) (by omega) (by omega) (by simp; omega) (hadd _ ⟨⟨by simp [szS, ByteArray.size], sz_mem q2 rfl, by simp [szS, ByteArray.size], sz_mem q3 rfl⟩, hk1⟩) (by omega) (by omega)
      exact ⟨R', a, p1, p0, p2, by omega, p4⟩
    · obtain ⟨x5, q5, g5⟩ := some10_ok fu n ls (at_ + 1 + 1 + 1 + 1) [[.str ⟨#[100, 101, 97, 108]⟩], [.str ⟨#[116, 97, 120]⟩]] [⟨#[100, 101, 97, 108]⟩, ⟨#[116, 97, 120]⟩] rfl (by omega) (by omega) (by simp) (by simp)
      obtain ⟨x6, q6, g6⟩ := some10_ok fu n ls (at_ + 1 + 1 + 1 + 1 + 1) [[.str ⟨#[]⟩], [.str ⟨#[110, 111]⟩]] [⟨#[]⟩, ⟨#[110, 111]⟩] rfl (by omega) (by omega) (by simp) (by simp)
      rw [cnd_true, g5, skS_some, g6, skS_some, gL_pos (by simp; omega), i64s (by omega)]
      have e : R.map ruleC ++ [[.int .i64 x1, .str (⟨#[119, 104, 121]⟩ : ByteArray), .str x5, .str (⟨#[114, 101, 115, 112]⟩ : ByteArray), .str x6]] = (R ++ [(⟨x1, ⟨#[119, 104, 121]⟩, x5, ⟨#[114, 101, 115, 112]⟩, x6⟩ : Rule)]).map ruleC := by rw [List.map_append]; rfl
      rw [e]
      obtain ⟨R', a, p1, p0, p2, p3, p4⟩ := RightLayout_L1 fu n N hN ls es b0 b1 m (i + 1) k1 (at_ + 1 + 1 + 1 + 1 + 1 + 1) (R ++ [(⟨x1, ⟨#[119, 104, 121]⟩, x5, ⟨#[114, 101, 115, 112]⟩, x6⟩ : Rule)]) (by omega) (by omega) (by simp; omega) (hadd _ ⟨⟨by simp [szS, ByteArray.size], sz_mem q5 rfl, by simp [szS, ByteArray.size], sz_mem q6 rfl⟩, hk1⟩) (by omega) (by omega)
      exact ⟨R', a, p1, p0, p2, by omega, p4⟩
/-- What a right layout has. -/
structure LayR (L : Lay) : Prop where
  asks : 2 ≤ L.asks.length ∧ L.asks.length ≤ 3
  rules : L.rules.length ≤ 2
  s : ∀ a ∈ L.asks, AskS a
  spread : ∀ a ∈ L.asks, 0 ≤ a.spread ∧ a.spread ≤ 2
  kind : ∀ r ∈ L.rules, RuleR r
theorem LayR.sm {L : Lay} (h : LayR L) : LayS L := ⟨by have := h.asks; omega, by have := h.rules; omega, h.s, fun r hr => (h.kind r hr).s⟩
theorem LayR.ok {L : Lay} (h : LayR L) : LayOk L := h.sm.ok
theorem LayR.choices {L : Lay} (h : LayR L) : ∀ a ∈ L.asks, a.choices.length ≤ 3 := fun a ha => (h.s a ha).len
theorem RightLayout_ok (fu n : Nat) (ls : List Int) (at_ : Int) (h0 : 0 ≤ at_) (h1 : at_ < 3000000000000000000) (hfu : 1000000 ≤ fu) :
    ∃ (L : Lay) (a : Int), LayR L ∧ 0 ≤ a ∧ a ≤ at_ + 20 ∧ ev fu (n + 4) 11 [.ptr 0 0] (sb ls at_) = some ([.agg [.ref 1, .ref 2]], [some (.box [.list (ls.map i1), .int .i64 a]), some (.row false 4 (L.asks.map askC) []), some (.row false 5 (L.rules.map ruleC) [])]) := by
  obtain ⟨x1, q1, g1⟩ := Range_ok fu n ls at_ 0 2 h0 (by omega) (by omega) (by omega) (by omega)
  obtain ⟨x2, q2, g2⟩ := Range_ok fu n ls (at_ + 1) 0 2 (by omega) (by omega) (by omega) (by omega) (by omega)
  obtain ⟨x3, q3, g3⟩ := Range_ok fu n ls (at_ + 1 + 1) 0 2 (by omega) (by omega) (by omega) (by omega) (by omega)
  obtain ⟨x4, q4, g4⟩ := Pick_okL fu n ls (at_ + 1 + 1 + 1) [[.int .i64 2], [.int .i64 3], [.int .i64 3]] [2, 3, 3] rfl (by omega) (by omega) (by simp) (by simp)
  obtain ⟨x5, q5, g5⟩ := Pick_okL fu n ls (at_ + 1 + 1 + 1 + 1) [[.int .i64 0], [.int .i64 1], [.int .i64 1], [.int .i64 2]] [0, 1, 1, 2] rfl (by omega) (by omega) (by simp) (by simp)
  have b4 : 2 ≤ x4 ∧ x4 ≤ 3 := by simp at q4; omega
  have b5 : 0 ≤ x5 ∧ x5 ≤ 2 := by simp at q5; omega
  obtain ⟨N, rfl⟩ : ∃ N : Nat, x5 = N := ⟨x5.toNat, by omega⟩
  let A : List Ask := [⟨⟨#[114, 101, 115, 112]⟩, [⟨#[121, 101, 115]⟩, ⟨#[110, 111]⟩], false, x1⟩, ⟨⟨#[119, 104, 121]⟩, [⟨#[100, 101, 97, 108]⟩, ⟨#[104, 114]⟩, ⟨#[116, 97, 120]⟩], true, x2⟩, ⟨⟨#[104, 111, 116]⟩, [⟨#[104, 111, 116]⟩], false, x3⟩]
  obtain ⟨R, a, p1, p0, p2, p3, p4⟩ := RightLayout_L1 fu n N (by omega) ls (List.take x4.toNat (A.map askC)) [] [] N 0 fu (at_ + 1 + 1 + 1 + 1 + 1) [] (by omega) (by omega) (by simp) (by simp) (by omega) (by omega)
  refine ⟨⟨A.take x4.toNat, R⟩, a, ⟨?_, by simpa using Nat.le_trans p1 (by omega), fun a ha => ?_, fun a ha => ?_, p0⟩, p2, by omega, ?_⟩
  · show 2 ≤ (A.take x4.toNat).length ∧ (A.take x4.toNat).length ≤ 3
    rw [List.length_take]
    have : A.length = 3 := rfl
    omega
  · have := List.mem_of_mem_take ha
    simp only [A, List.mem_cons, List.not_mem_nil, or_false] at this
    rcases this with rfl | rfl | rfl <;> exact ⟨by simp [szS, ByteArray.size], by simp, fun c hc => sz_mem hc rfl⟩
  · have := List.mem_of_mem_take ha
    simp only [A, List.mem_cons, List.not_mem_nil, or_false] at this
    rcases this with rfl | rfl | rfl
    · exact q1
    · exact q2
    · exact q3
  · rw [chasemake_Stream_RightLayout_eq, g1, skI_some, g2, skI_some, g3, skI_some, g4, skI_some, gd_pos (by simp; omega), g5, skI_some]
    show (_ : Out) = some ([.agg [.ref 1, .ref 2]], [some (.box [.list (ls.map i1), .int .i64 a]), some (.row false 4 ((A.take x4.toNat).map askC) []), some (.row false 5 (R.map ruleC) [])])
    rw [List.map_take]
    exact p4
theorem ovr_askF (a : Ask) (x : ByteArray) : ovr (askC a) 0 [.str x] = askC { a with field := x } := rfl
theorem ovr_askC (a : Ask) (x : List ByteArray) : ovr (askC a) 1 [.list (strs x)] = askC { a with choices := x } := rfl
theorem ovr_askS (a : Ask) (x : Int) : ovr (askC a) 3 [.int .i64 x] = askC { a with spread := x } := rfl
theorem Layout_ok (fu n : Nat) (ls : List Int) (at_ : Int) (h0 : 0 ≤ at_) (h1 : at_ < 3000000000000000000) (hfu : 1000000 ≤ fu) :
    ∃ (L : Lay) (a : Int) (r : MV), LayS L ∧ 0 ≤ a ∧ a ≤ at_ + 40 ∧ (∀ K : List (List MV) → Out, dL r K = K (L.asks.map askC)) ∧ ev fu (n + 5) 6 [.ptr 0 0] (sb ls at_) = some ([.agg [r, .list (L.rules.map ruleC)]], sb ls a) := by
  obtain ⟨L, a1, hL, b0, b1, g1⟩ := RightLayout_ok fu n ls at_ h0 h1 hfu
  obtain ⟨b, g2⟩ := Flip_ok fu (n + 1) ls a1 10 b0 (by omega)
  have hok := hL.sm
  have hlen := hL.asks
  have put : ∀ (k : Nat) (hk : k < L.asks.length) (y : Ask), AskS y → LayS ⟨L.asks.set k y, L.rules⟩ := fun k hk y hy =>
    ⟨by simpa using hok.alen, hok.rlen, fun z hz => by
      rcases List.mem_or_eq_of_mem_set hz with h | h
      · exact hok.asks z h
      · subst h; exact hy, hok.rules⟩
  have more : ∀ r : Rule, RuleS r → LayS ⟨L.asks, L.rules ++ [r]⟩ := fun r hr => ⟨hok.alen, by have := hL.rules; simp; omega, hok.asks, fun z hz => by
    rcases List.mem_append.1 hz with h | h
    · exact hok.rules z h
    · simp at h; subst h; exact hr⟩
  rw [chasemake_Stream_Layout_eq, g1]
  simp only [callE_some', unX_cons, dBx_box, unC_cons, dL_list, dI_int, unN_nil, dRw_row, unXN_nil, dA_agg, dRf_ref]
  rw [g2, skB_some]
  cases b
  · rw [cnd_false]
    exact ⟨L, a1 + 1, _, hok, by omega, by omega, fun _ => rfl, rfl⟩
  · obtain ⟨k, hk, g3⟩ := Next_ok fu (n + 2) ls (a1 + 1) (L.asks.length : Nat) (by omega) (by omega)
    have hk := hk (by omega) (by omega)
    obtain ⟨k, rfl⟩ : ∃ q : Nat, k = q := ⟨k.toNat, by omega⟩
    have hkl : k < L.asks.length := by omega
    obtain ⟨c, hc, g4⟩ := Next_ok fu (n + 2) ls (a1 + 1 + 1) 6 (by omega) (by omega)
    have hc := hc (by omega) (by omega)
    have hrd : ∀ (K : List MV → Out), rdN (L.asks.map askC) k K = K (askC L.asks[k]) := fun K => rdN_get (by simp [hkl]) K
    have hset : ∀ y, (L.asks.map askC).set k (askC y) = (L.asks.set k y).map askC := fun y => by rw [List.map_set]
    have hch := hL.s L.asks[k] (List.getElem_mem _)
    rw [cnd_true, eqM_self', List.length_map, g3, skI_some, ixG_n hkl, ixG_n hkl]
    simp only [eqM_self', Int.toNat_natCast]
    rw [g4, skI_some]
    simp only [hrd, cnd_decide]
    by_cases c0 : c = 0
    · obtain ⟨x, qx, g5⟩ := some10_ok fu (n + 1) ls (a1 + 1 + 1 + 1) [[.str ⟨#[]⟩], [.str ⟨#[114, 101, 115, 112]⟩], [.str ⟨#[65]⟩]] [⟨#[]⟩, ⟨#[114, 101, 115, 112]⟩, ⟨#[65]⟩] rfl (by omega) (by omega) (by simp) (by simp)
      rw [if_pos c0, g5, skS_some, ovr_askF, hset]
      exact ⟨⟨L.asks.set k { L.asks[k] with field := x }, L.rules⟩, a1 + 1 + 1 + 1 + 1, .list ((L.asks.set k { L.asks[k] with field := x }).map askC), put k hkl _ ⟨sz_mem qx rfl, hch.len, hch.choices⟩, by omega, by omega, fun _ => rfl, rfl⟩
    rw [if_neg c0]
    by_cases c1 : c = 1
    · obtain ⟨x, hx, g5⟩ := Next_ok fu (n + 2) ls (a1 + 1 + 1 + 1) 3 (by omega) (by omega)
      have hx := hx (by omega) (by omega)
      rw [if_pos c1, g5, skI_some, ixG_pos hx.1 (by simp; omega)]
      obtain h | h | h : x = 0 ∨ x = 1 ∨ x = 2 := by omega
      · subst h
        exact ⟨⟨L.asks.set k { L.asks[k] with choices := [] }, L.rules⟩, a1 + 1 + 1 + 1 + 1, .list ((L.asks.set k { L.asks[k] with choices := [] }).map askC), put k hkl _ ⟨hch.field, by simp, by simp⟩, by omega, by omega, fun _ => rfl, by rw [← hset]; rfl⟩
      · subst h
        exact ⟨⟨L.asks.set k { L.asks[k] with choices := [⟨#[121, 101, 115]⟩, ⟨#[121, 101, 115]⟩] }, L.rules⟩, a1 + 1 + 1 + 1 + 1, .list ((L.asks.set k { L.asks[k] with choices := [⟨#[121, 101, 115]⟩, ⟨#[121, 101, 115]⟩] }).map askC), put k hkl _ ⟨hch.field, by simp, fun c hc => sz_mem hc rfl⟩, by omega, by omega, fun _ => rfl, by rw [← hset]; rfl⟩
      · subst h
        exact ⟨⟨L.asks.set k { L.asks[k] with choices := [⟨#[89]⟩] }, L.rules⟩, a1 + 1 + 1 + 1 + 1, .list ((L.asks.set k { L.asks[k] with choices := [⟨#[89]⟩] }).map askC), put k hkl _ ⟨hch.field, by simp, fun c hc => sz_mem hc rfl⟩, by omega, by omega, fun _ => rfl, by rw [← hset]; rfl⟩
    rw [if_neg c1]
    by_cases c2 : c = 2
    · obtain ⟨x, a2, d0, d1, g5⟩ := odd10_ok fu n ls (a1 + 1 + 1 + 1) 0 2 (by omega) (by omega) (by omega) (by omega) (by omega)
      rw [if_pos c2, g5, skI_some, ovr_askS, hset]
      exact ⟨⟨L.asks.set k { L.asks[k] with spread := x }, L.rules⟩, a2, .list ((L.asks.set k { L.asks[k] with spread := x }).map askC), put k hkl _ ⟨hch.field, hch.len, hch.choices⟩, by omega, by omega, fun _ => rfl, rfl⟩
    rw [if_neg c2]
    by_cases c3 : c = 3
    · obtain ⟨x1, a2, d0, d1, g5⟩ := odd10_ok fu n ls (a1 + 1 + 1 + 1) 1 2 (by omega) (by omega) (by omega) (by omega) (by omega)
      obtain ⟨x2, q2, g6⟩ := some10_ok fu (n + 1) ls a2 [[.str ⟨#[121, 101, 115]⟩], [.str ⟨#[109, 97, 121, 98, 101]⟩]] [⟨#[121, 101, 115]⟩, ⟨#[109, 97, 121, 98, 101]⟩] rfl (by omega) (by omega) (by simp) (by simp)
      obtain ⟨x3, q3, g7⟩ := some10_ok fu (n + 1) ls (a2 + 1) [[.str ⟨#[119, 104, 121]⟩], [.str ⟨#[114, 101, 115, 112]⟩], [.str ⟨#[110, 111, 110, 101]⟩]] [⟨#[119, 104, 121]⟩, ⟨#[114, 101, 115, 112]⟩, ⟨#[110, 111, 110, 101]⟩] rfl (by omega) (by omega) (by simp) (by simp)
      obtain ⟨x4, q4, g8⟩ := some10_ok fu (n + 1) ls (a2 + 1 + 1) [[.str ⟨#[]⟩], [.str ⟨#[100, 101, 97, 108]⟩], [.str ⟨#[122, 122]⟩]] [⟨#[]⟩, ⟨#[100, 101, 97, 108]⟩, ⟨#[122, 122]⟩] rfl (by omega) (by omega) (by simp) (by simp)
      have hgl : (L.rules.map ruleC).length + 1 ≤ 1000000000 := by have := hL.rules; simp; omega
      rw [if_pos c3]
      simp only [g5, skI_some, g6, skS_some, g7, g8, List.length_cons, List.length_nil, Nat.zero_add, gL_pos hgl, eqO_box]
      refine ⟨⟨L.asks, L.rules ++ [⟨x1, ⟨#[114, 101, 115, 112]⟩, x2, x3, x4⟩]⟩, a2 + 1 + 1 + 1, .list (L.asks.map askC), more _ ⟨by simp [szS, ByteArray.size], sz_mem q2 rfl, sz_mem q3 rfl, sz_mem q4 rfl⟩, by omega, by omega, fun _ => rfl, ?_⟩
      rw [List.map_append]; rfl
    rw [if_neg c3]
    by_cases c4 : c = 4
    · rw [if_pos c4]
      exact ⟨⟨[], L.rules⟩, a1 + 1 + 1 + 1, .nil, ⟨by simp, hok.rlen, by simp, hok.rules⟩, by omega, by omega, fun _ => rfl, rfl⟩
    · obtain ⟨x2, q2, g6⟩ := some10_ok fu (n + 1) ls (a1 + 1 + 1 + 1) [[.str ⟨#[110, 111, 110, 101]⟩], [.str ⟨#[]⟩]] [⟨#[110, 111, 110, 101]⟩, ⟨#[]⟩] rfl (by omega) (by omega) (by simp) (by simp)
      have hgl : (L.rules.map ruleC).length + 1 ≤ 1000000000 := by have := hL.rules; simp; omega
      rw [if_neg c4]
      simp only [g6, skS_some, List.length_cons, List.length_nil, Nat.zero_add, gL_pos hgl, eqO_box]
      refine ⟨⟨L.asks, L.rules ++ [⟨1, x2, ⟨#[121, 101, 115]⟩, ⟨#[119, 104, 121]⟩, ⟨#[]⟩⟩]⟩, a1 + 1 + 1 + 1 + 1, .list (L.asks.map askC), more _ ⟨sz_mem q2 rfl, by simp [szS, ByteArray.size], by simp [szS, ByteArray.size], by simp [szS, ByteArray.size]⟩, by omega, by omega, fun _ => rfl, ?_⟩
      rw [List.map_append]; rfl
end Go.Pv
