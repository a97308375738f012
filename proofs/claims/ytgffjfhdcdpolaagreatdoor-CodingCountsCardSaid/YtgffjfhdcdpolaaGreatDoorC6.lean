/- Chapter 6: values that streams make; the law ValueChecks. -/
import Derived.Test.YtgffjfhdcdpolaaGreatDoorC5
import Derived.Test.YtgffjfhdcdpolaaGreatDoorCD
set_option linter.unusedSimpArgs false
set_option linter.unusedVariables false
set_option maxRecDepth 100000
namespace Go.Pv
open Go Go.Proofs

theorem Values_L1 (fu n : Nat) (L : Lay) (hL : LayOk L) (ls : List Int) (hfu : 1000000 ≤ fu) : ∀ (m i k1 : Nat) (at_ : Int) (v : List Choice), i + m = L.asks.length → m < k1 → v.length ≤ i → (∀ c ∈ v, c.choices.length ≤ 200000) → 0 ≤ at_ → at_ + 200001 * m < 4000000000000000000 →
    ∃ (v' : List Choice) (a : Int), v'.length ≤ L.asks.length + 1 ∧ (∀ c ∈ v', c.choices.length ≤ 200000) ∧ 0 ≤ a ∧ a ≤ at_ + 200001 * m + 3 ∧ chasemake_Stream_Values_L1 fu (n + 3) k1 (v.map choC) (L.asks.map askC) (L.asks.length : Nat) (i : Nat) (ls.map i1) at_ = some ([.ref 1], [some (.box [.list (ls.map i1), .int .i64 a]), some (.row false 2 (v'.map choC) [])])
  | m, i, 0, at_, v, hi, hk, hr, hc, h0, h1 => by omega
  | 0, i, k1 + 1, at_, v, hi, hk, hr, hc, h0, h1 => by
    have hla := hL.asks
    obtain ⟨b, g1⟩ := Flip_ok fu n ls at_ 25 h0 (by omega)
    rw [chasemake_Stream_Values_L1_eq, cnd_decide, if_neg (by omega), g1, skB_some]
    cases b
    · exact ⟨v, at_ + 1, by omega, hc, by omega, by omega, rfl⟩
    · obtain ⟨x, _, g2⟩ := some10_ok fu n ls (at_ + 1) [[.str ⟨#[114, 101, 115, 112]⟩], [.str ⟨#[110, 111, 110, 101]⟩], [.str ⟨#[119, 104, 121]⟩]] [⟨#[114, 101, 115, 112]⟩, ⟨#[110, 111, 110, 101]⟩, ⟨#[119, 104, 121]⟩] rfl (by omega) (by omega) (by simp) (by simp)
      obtain ⟨y, hy, g3⟩ := Next_ok fu (n + 1) ls (at_ + 1 + 1) 5 (by omega) (by omega)
      have hy := hy (by omega) (by omega)
      have key : ∀ cs : List ByteArray, cs.length ≤ 200000 → ∃ (v' : List Choice) (a : Int), v'.length ≤ L.asks.length + 1 ∧ (∀ c ∈ v', c.choices.length ≤ 200000) ∧ 0 ≤ a ∧ a ≤ at_ + 200001 * (0 : Nat) + 3 ∧ gL (List.length (v.map choC) + List.length ([[.str x, .list (strs cs)]] : List (List MV))) (some ([.ref 1], [some (.box [.list (ls.map i1), .int .i64 (at_ + 1 + 1 + 1)]), some (.row false 2 (v.map choC ++ [[.str x, .list (strs cs)]]) [])]) : Out) = some ([.ref 1], [some (.box [.list (ls.map i1), .int .i64 a]), some (.row false 2 (v'.map choC) [])]) := by
        intro cs hcs
        refine ⟨v ++ [⟨x, cs⟩], at_ + 1 + 1 + 1, by simp; omega, fun c hcm => ?_, by omega, by omega, ?_⟩
        · rcases List.mem_append.1 hcm with h | h
          · exact hc c h
          · simp at h; subst h; exact hcs
        · rw [gL_pos (by simp; omega), List.map_append]; rfl
      rw [cnd_true, g2, skS_some, g3, skI_some, ixG_pos hy.1 (by simp; omega)]
      obtain h | h | h | h | h : y = 0 ∨ y = 1 ∨ y = 2 ∨ y = 3 ∨ y = 4 := by omega
      · subst h; exact key [] (by simp)
      · subst h; exact key [⟨#[121, 101, 115]⟩] (by simp)
      · subst h; exact key [⟨#[121, 101, 115]⟩, ⟨#[110, 111]⟩] (by simp)
      · subst h; exact key [⟨#[104, 114]⟩, ⟨#[100, 101, 97, 108]⟩] (by simp)
      · subst h; exact key [⟨#[122, 122]⟩] (by simp)
  | m + 1, i, k1 + 1, at_, v, hi, hk, hr, hc, h0, h1 => by
    have hlt : i < L.asks.length := by omega
    have hla := hL.asks
    have hlc := hL.choices L.asks[i] (List.getElem_mem _)
    obtain ⟨b, g1⟩ := Flip_ok fu n ls at_ 3 h0 (by omega)
    -- the choices of one field
    have inner : ∀ (q j k2 : Nat) (a : Int) (cs : List ByteArray), j + q = L.asks[i].choices.length → q < k2 → cs.length ≤ j → 0 ≤ a → a + q ≤ at_ + 200001 → 
        ∃ (v' : List Choice) (a' : Int), v'.length ≤ L.asks.length + 1 ∧ (∀ c ∈ v', c.choices.length ≤ 200000) ∧ 0 ≤ a' ∧ a' ≤ at_ + 200001 * (m + 1 : Nat) + 3 ∧
          chasemake_Stream_Values_L2 fu (n + 3) k1 k2 (v.map choC) (L.asks.map askC) (L.asks.length : Nat) (i : Nat) (strs L.asks[i].choices) (L.asks[i].choices.length : Nat) (j : Nat) (ls.map i1) a L.asks[i].field (strs L.asks[i].choices) L.asks[i].many L.asks[i].spread L.asks[i].field (strs cs) = some ([.ref 1], [some (.box [.list (ls.map i1), .int .i64 a']), some (.row false 2 (v'.map choC) [])]) := by
      intro q
      induction q with
      | zero =>
        intro j k2 a cs hj hk2 hcs ha0 ha1
        obtain ⟨k2, rfl⟩ : ∃ z, k2 = z + 1 := ⟨k2 - 1, by omega⟩
        rw [chasemake_Stream_Values_L2_eq, cnd_decide, if_neg (by omega), cnd_decide, i64s (by omega)]
        by_cases hz : (0 : Int) < ((strs cs).length : Nat)
        · rw [if_pos hz, gL_pos (by simp; omega)]
          have e : v.map choC ++ [[.str L.asks[i].field, .list (strs cs)]] = (v ++ [(⟨L.asks[i].field, cs⟩ : Choice)]).map choC := by rw [List.map_append]; rfl
          rw [e]
          obtain ⟨v', a', p1, p2, p3, p4, p5⟩ := Values_L1 fu n L hL ls hfu m (i + 1) k1 a (v ++ [(⟨L.asks[i].field, cs⟩ : Choice)]) (by omega) (by omega) (by simp; omega) (fun c hcm => by
            rcases List.mem_append.1 hcm with h | h
            · exact hc c h
            · simp at h; subst h; simp; omega) ha0 (by omega)
          exact ⟨v', a', p1, p2, p3, by omega, p5⟩
        · rw [if_neg hz]
          obtain ⟨v', a', p1, p2, p3, p4, p5⟩ := Values_L1 fu n L hL ls hfu m (i + 1) k1 a v (by omega) (by omega) (by omega) hc ha0 (by omega)
          exact ⟨v', a', p1, p2, p3, by omega, p5⟩
      | succ q ih =>
        intro j k2 a cs hj hk2 hcs ha0 ha1
        obtain ⟨k2, rfl⟩ : ∃ z, k2 = z + 1 := ⟨k2 - 1, by omega⟩
        have hjl : j < L.asks[i].choices.length := by omega
        obtain ⟨b2, g2⟩ := Flip_ok fu n ls a 2 ha0 (by omega)
        have e : strs cs ++ [[.str L.asks[i].choices[j]]] = strs (cs ++ [L.asks[i].choices[j]]) := by unfold strs; rw [List.map_append]; rfl
        have hrd : ∀ K : List MV → Out, rd (strs L.asks[i].choices) (j : Int) K = K (sS L.asks[i].choices[j]) := fun K => by unfold strs; exact rdm hjl K
        have hg : ∀ o : Out, gL (List.length (strs cs) + List.length ([[.str L.asks[i].choices[j]]] : List (List MV))) o = o := fun o => gL_pos (by simp; omega) o
        have r1 := ih (j + 1) k2 (a + 1) (cs ++ [L.asks[i].choices[j]]) (by omega) (by omega) (by simp; omega) (by omega) (by omega)
        have r2 := ih (j + 1) k2 (a + 1) cs (by omega) (by omega) (by omega) (by omega) (by omega)
        have r3 := ih (j + 1) k2 a cs (by omega) (by omega) (by omega) (by omega) (by omega)
        have hb : ∀ b : Bool, b = true ∨ b = false := fun b => by cases b <;> simp
        rw [chasemake_Stream_Values_L2_eq, cnd_decide, if_pos (by omega), hrd, gd_pos (sS_len _)]
        simp only [sS, cel_zero, dS_str, g2, skB_some, hg, i64s (show j < 9223372036854775807 by omega), e]
        rcases hb L.asks[i].many with hm | hm <;> rcases hb (decide (((strs cs).length : Int) = 0)) with hz | hz <;> cases b2 <;> simp only [hm, hz, cnd_true, cnd_false] at r1 r2 r3 ⊢ <;> first | exact r1 | exact r2 | exact r3
    rw [chasemake_Stream_Values_L1_eq, cnd_decide, if_pos (by omega), rdAsk hlt, g1, skB_some]
    cases b
    · rw [cnd_false, cnd_decide]
      by_cases hz : ((strs L.asks[i].choices).length : Int) = 0
      · rw [if_pos hz, i64s (by omega)]
        obtain ⟨v', a', p1, p2, p3, p4, p5⟩ := Values_L1 fu n L hL ls hfu m (i + 1) k1 (at_ + 1) v (by omega) (by omega) (by omega) hc (by omega) (by omega)
        exact ⟨v', a', p1, p2, p3, by omega, p5⟩
      · rw [if_neg hz]
        have := inner L.asks[i].choices.length 0 fu (at_ + 1) [] (by omega) (by omega) (by simp) (by omega) (by omega)
        rw [strs_len]; exact this
    · rw [cnd_true, i64s (by omega)]
      obtain ⟨v', a', p1, p2, p3, p4, p5⟩ := Values_L1 fu n L hL ls hfu m (i + 1) k1 (at_ + 1) v (by omega) (by omega) (by omega) hc (by omega) (by omega)
      exact ⟨v', a', p1, p2, p3, by omega, p5⟩
theorem Values_ok (fu n : Nat) (L : Lay) (hL : LayOk L) (ls : List Int) (at_ : Int) (h0 : 0 ≤ at_) (h1 : at_ < 3000000000000000000) (hfu : 1000000 ≤ fu) :
    ∃ (v : List Choice) (a : Int), ValOk v ∧ 0 ≤ a ∧ a ≤ at_ + 40000200003 ∧ ev fu (n + 4) 79 [.ptr 0 0, layM L] (sb ls at_) = some ([.ref 1], [some (.box [.list (ls.map i1), .int .i64 a]), some (.row false 2 (v.map choC) [])]) := by
  have hla := hL.asks
  obtain ⟨v, a, p1, p2, p3, p4, p5⟩ := Values_L1 fu n L hL ls hfu L.asks.length 0 fu at_ [] (by omega) (by omega) (by simp) (by simp) h0 (by omega)
  refine ⟨v, a, ⟨by omega, p2⟩, p3, by omega, ?_⟩
  rw [chasemake_Stream_Values_eq, List.length_map]
  exact p5
theorem EqualI_ok (fu n : Nat) (xs ys : List Int) (hl : xs.length ≤ 400000) (hfu : 1000000 ≤ fu) : ev fu (n + 1) 38 [.list (xs.map i1), .list (xs.map i1)] [] = some ([.bool true], []) := by
  have h := loop_ok xs (fun _ _ => True) (fun k i (_ : Unit) => slices_Equal_Sint_int_L1 fu n k (xs.map i1) (xs.map i1) (xs.length : Nat) i) (fun _ _ _ => .inr ()) (fun _ => some ([.bool true], []))
    (fun k s _ => by rw [slices_Equal_Sint_int_L1_eq, cnd_decide, if_neg (by omega)])
    (fun k i _ hi _ => by
      have hrd : ∀ K : List MV → Out, rd (xs.map i1) (i : Int) K = K (i1 xs[i]) := fun K => rdm hi K
      have hc : ∀ K : MV → Out, cel (i1 xs[i]) 0 K = K (.int .i64 xs[i]) := fun _ => rfl
      rw [slices_Equal_Sint_int_L1_eq, cnd_decide, if_pos (by omega)]
      simp only [hrd, hc, i1_len, gd_true, dI_int, eqM_self', decide_true, Bool.not_true, cnd_false]
      rw [i64s (by omega)]) (fun _ _ _ _ _ _ => trivial) xs.length 0 fu () (by omega) (by omega) trivial
  have e : ∀ (l : List Int) (i : Nat), runL (σ := Unit) (fun _ _ _ => .inr ()) (fun _ => (some ([.bool true], []) : Out)) i () l = some ([.bool true], []) := by
    intro l
    induction l with
    | nil => intro i; rfl
    | cons a r ih => intro i; exact ih (i + 1)
  rw [slices_Equal_Sint_int_eq, List.length_map, decide_eq_true rfl, Bool.not_true, cnd_false]
  exact h.trans (by rw [List.drop_zero]; exact e xs 0)
end Go.Pv
