/- MostOf and FewestOf of the reference; hashes; drawn streams. -/
import Derived.Test.YtoakchnegkmepaaS5
set_option linter.unusedSimpArgs false
set_option linter.unusedVariables false
set_option maxRecDepth 100000
namespace Go.Pv
open Go Go.Proofs

theorem MostOf_L1 (fu n p s f num den up : Nat) (hfu : 1000000 ≤ fu) (hp : p ≤ 2000) (hs : s ≤ 60) (hsp : s ≤ p) (hf : f ≤ s) (hden : den ≤ 1000) (hden0 : 0 < den) (hup0 : 0 < up) (hup : num + up = den) :
    ∀ (m lo hi k1 : Nat), hi ≤ lo + m + 1 → f ≤ lo → lo < hi → hi ≤ p - s + f + 1 → m < k1 → (lo = f ∨ P1 p s f den up lo = true) → (hi = p - s + f + 1 ∨ P1 p s f den up hi = false) →
    chaseref2_MostOf_L1 fu (n + 3) k1 (drw p s f) (lvl num den) lo hi = some ([(none, .int .i64 (mostN p s f den up : Nat))], [])
  | m, lo, hi, 0, h1, h2, h3, h4, hk, h5, h6 => by omega
  | m, lo, hi, k1 + 1, h1, h2, h3, h4, hk, h5, h6 => by
    have e0 : IntKind.i64.wrap ((hi : Int) - (lo : Int)) = ((hi - lo : Nat) : Int) := by rw [w64 (by omega) (by omega)]; omega
    rw [chaseref2_MostOf_L1_eq, cnd_decide, e0]
    by_cases hl : 1 < hi - lo
    · cases m with
      | zero => omega
      | succ m =>
        have e1 : IntKind.i64.wrap ((IntKind.i64.wrap ((lo : Int) + (hi : Int))).tdiv 2) = (((lo + hi) / 2 : Nat) : Int) := by
          rw [← Int.natCast_add, i64n (by omega)]
          have e2 : (((lo + hi : Nat) : Int)).tdiv 2 = (((lo + hi) / 2 : Nat) : Int) := rfl
          rw [e2, i64n (by omega)]
        have hq := rlikely_ok fu n ((lo + hi) / 2) p s num den up 0 f f hfu (by omega) hp hs hf (by omega) hden hden0 hup0 hup
        have e4 : ((0 : Nat) : Int) = 0 := rfl
        rw [e4] at hq
        rw [if_pos (by omega), gd_pos (by decide)]
        simp only [drw, lvl, gd3, gd2, take3, take2, cel_2, dI_int, e1] at hq ⊢
        rw [npG_pos (by simp), hq, rB_some]
        by_cases hb : P1 p s f den up ((lo + hi) / 2) = true
        · have hb2 : likeS ((lo + hi) / 2) (p - (lo + hi) / 2) s 0 (f + 1 - 0) den up = true := hb
          rw [hb2, cnd_true]
          exact MostOf_L1 fu n p s f num den up hfu hp hs hsp hf hden hden0 hup0 hup m ((lo + hi) / 2) hi k1 (by omega) (by omega) (by omega) h4 (by omega) (Or.inr hb) h6
        · have hb1 := Bool.eq_false_iff.2 hb
          have hb2 : likeS ((lo + hi) / 2) (p - (lo + hi) / 2) s 0 (f + 1 - 0) den up = false := hb1
          rw [hb2, cnd_false]
          exact MostOf_L1 fu n p s f num den up hfu hp hs hsp hf hden hden0 hup0 hup m lo ((lo + hi) / 2) k1 (by omega) (by omega) (by omega) (by omega) (by omega) h5 (Or.inr hb1)
    · have e : hi = lo + 1 := by omega
      subst e
      have u := leastN_uniq (fun r => !P1 p s f den up r) (f + 1) (p - s + f + 1) (by omega) (fun x y a b c d => P1_mono hf b (by omega) d) (r := lo + 1) (by omega) h4
        (by rcases h5 with h5 | h5
            · left; omega
            · right; simp [h5])
        (by rcases h6 with h6 | h6
            · left; exact h6
            · right; simp [h6])
      have e5 : p - s + f + 1 - (f + 1) = p - s := by omega
      rw [e5] at u
      have e6 : mostN p s f den up = lo := by unfold mostN; omega
      rw [if_neg (by omega), e6]

theorem MostOf_ok (fu n p s f num den up : Nat) (hfu : 1000000 ≤ fu) (hp : p ≤ 2000) (hs : s ≤ 60) (hsp : s ≤ p) (hf : f ≤ s) (hden : den ≤ 1000) (hden0 : 0 < den) (hup0 : 0 < up) (hup : num + up = den) :
    ev fu (n + 4) 23 [.agg (drw p s f), .agg (lvl num den)] [] = some ([(none, .int .i64 (mostN p s f den up : Nat))], []) := by
  have h := MostOf_L1 fu n p s f num den up hfu hp hs hsp hf hden hden0 hup0 hup (p - s + 1) f (p - s + f + 1) fu (by omega) (by omega) (by omega) (by omega) (by omega) (Or.inl rfl) (Or.inl rfl)
  have e2 : IntKind.i64.wrap (IntKind.i64.wrap (IntKind.i64.wrap ((p : Int) - (s : Int)) + (f : Int)) + 1) = ((p - s + f + 1 : Nat) : Int) := by
    rw [show IntKind.i64.wrap ((p : Int) - (s : Int)) = ((p - s : Nat) : Int) from by rw [w64 (by omega) (by omega)]; omega, ← Int.natCast_add, i64n (by omega), i64s (by omega)]
  rw [chaseref2_MostOf_eq]
  simp only [drw, cel_zero, cel_1, cel_2, dI_int, eqM_self', e2] at h ⊢
  exact (congrArg (npO 0) h).trans (npO_0 (by simp))

theorem FewestOf_L1 (fu n p s f num den up : Nat) (hfu : 1000000 ≤ fu) (hp : p ≤ 2000) (hs : s ≤ 60) (hsp : s ≤ p) (hf : f ≤ s) (hden : den ≤ 1000) (hden0 : 0 < den) (hup0 : 0 < up) (hup : num + up = den) :
    ∀ (m lo hi k1 : Nat), hi ≤ lo + m → f ≤ lo → lo ≤ hi → hi ≤ p - s + f → m < k1 → (lo = f ∨ P2 p s f den up (lo - 1) = false) → (hi = p - s + f ∨ P2 p s f den up hi = true) →
    chaseref2_FewestOf_L1 fu (n + 3) k1 (drw p s f) (lvl num den) ((lo : Int) - 1) hi = some ([(none, .int .i64 (fewN p s f den up : Nat))], [])
  | m, lo, hi, 0, h1, h2, h3, h4, hk, h5, h6 => by omega
  | m, lo, hi, k1 + 1, h1, h2, h3, h4, hk, h5, h6 => by
    have e0 : IntKind.i64.wrap ((hi : Int) - ((lo : Int) - 1)) = ((hi + 1 - lo : Nat) : Int) := by rw [w64 (by omega) (by omega)]; omega
    rw [chaseref2_FewestOf_L1_eq, cnd_decide, e0]
    by_cases hl : lo < hi
    · cases m with
      | zero => omega
      | succ m =>
        obtain ⟨x, hx⟩ : ∃ x, x = (lo + hi - 1) / 2 := ⟨_, rfl⟩
        have e1 : IntKind.i64.wrap ((IntKind.i64.wrap (((lo : Int) - 1) + (hi : Int))).tdiv 2) = (x : Int) := by
          rw [show IntKind.i64.wrap (((lo : Int) - 1) + (hi : Int)) = ((lo + hi - 1 : Nat) : Int) from by rw [w64 (by omega) (by omega)]; omega]
          have e2 : (((lo + hi - 1 : Nat) : Int)).tdiv 2 = (((lo + hi - 1) / 2 : Nat) : Int) := rfl
          rw [e2, i64n (by omega), hx]
        have hq := rlikely_ok fu n x p s num den up f s f hfu (by omega) hp hs (Nat.le_refl _) hf hden hden0 hup0 hup
        rw [if_pos (by omega), gd_pos (by decide)]
        simp only [drw, lvl, gd3, gd2, take3, take2, cel_1, cel_2, dI_int, e1] at hq ⊢
        rw [npG_pos (by simp), hq, rB_some]
        by_cases hb : P2 p s f den up x = true
        · have hb2 : likeS x (p - x) s f (s + 1 - f) den up = true := hb
          rw [hb2, cnd_true]
          exact FewestOf_L1 fu n p s f num den up hfu hp hs hsp hf hden hden0 hup0 hup m lo x k1 (by omega) (by omega) (by omega) (by omega) (by omega) h5 (Or.inr hb)
        · have hb1 := Bool.eq_false_iff.2 hb
          have hb2 : likeS x (p - x) s f (s + 1 - f) den up = false := hb1
          rw [hb2, cnd_false]
          have e7 : (x : Int) = ((x + 1 : Nat) : Int) - 1 := by omega
          rw [e7]
          exact FewestOf_L1 fu n p s f num den up hfu hp hs hsp hf hden hden0 hup0 hup m (x + 1) hi k1 (by omega) (by omega) (by omega) (by omega) (by omega) (Or.inr (by rw [Nat.add_sub_cancel]; exact hb1)) h6
    · have e : lo = hi := by omega
      subst e
      have u := leastN_uniq (P2 p s f den up) f (p - s + f) (by omega) (fun x y a b c d => P2_mono hf b (by omega) d) (r := lo) h2 h4 h5 h6
      have e5 : p - s + f - f = p - s := by omega
      rw [e5] at u
      have e6 : fewN p s f den up = lo := u.symm
      rw [if_neg (by omega), e6]

theorem FewestOf_ok (fu n p s f num den up : Nat) (hfu : 1000000 ≤ fu) (hp : p ≤ 2000) (hs : s ≤ 60) (hsp : s ≤ p) (hf : f ≤ s) (hden : den ≤ 1000) (hden0 : 0 < den) (hup0 : 0 < up) (hup : num + up = den) :
    ev fu (n + 4) 24 [.agg (drw p s f), .agg (lvl num den)] [] = some ([(none, .int .i64 (fewN p s f den up : Nat))], []) := by
  have h := FewestOf_L1 fu n p s f num den up hfu hp hs hsp hf hden hden0 hup0 hup (p - s) f (p - s + f) fu (by omega) (by omega) (by omega) (by omega) (by omega) (Or.inl rfl) (Or.inl rfl)
  have e2 : IntKind.i64.wrap (IntKind.i64.wrap ((p : Int) - (s : Int)) + (f : Int)) = ((p - s + f : Nat) : Int) := by
    rw [show IntKind.i64.wrap ((p : Int) - (s : Int)) = ((p - s : Nat) : Int) from by rw [w64 (by omega) (by omega)]; omega, ← Int.natCast_add, i64n (by omega)]
  have e3 : IntKind.i64.wrap ((f : Int) - 1) = (f : Int) - 1 := w64 (by omega) (by omega)
  rw [chaseref2_FewestOf_eq]
  simp only [drw, cel_zero, cel_1, cel_2, dI_int, eqM_self', e2, e3] at h ⊢
  exact (congrArg (npO 0) h).trans (npO_0 (by simp))

end Go.Pv

