/- Chapter 6: broken rules, both sides; what streams make. -/
import Derived.Test.YtgffjfhdcdpolaaGreatDoorC3
set_option linter.unusedSimpArgs false
set_option linter.unusedVariables false
set_option maxRecDepth 100000
namespace Go.Pv
open Go Go.Proofs

/-! ### Broken rules -/
def isC (f : ByteArray) (c : Choice) : Bool := decide (c.field = f)
def valL (v : List Choice) (f : ByteArray) : List ByteArray := match v.find? (isC f) with
  | some c => c.choices
  | none => []
theorem valL_len {v : List Choice} (hv : ValOk v) (f : ByteArray) : (valL v f).length ≤ 200000 := by
  unfold valL
  split
  · rename_i c h; exact hv.choices c (List.mem_of_find?_eq_some h)
  · simp
theorem IndexFuncC_ok (fu n : Nat) (g : FuncId) (c : List MV) (p : Choice → Bool) (hc : npL c = true) (hf : ∀ a, ev fu n g ([.agg (choC a)] ++ c) [] = some ([.bool (p a)], [])) (l : List Choice) (hl : l.length ≤ 400000) (hfu : 1000000 ≤ fu) :
    ev fu (n + 1) 120 [.list (l.map choC), .fn g c] [] = some ([.int .i64 (fIx p 0 l)], []) := by
  have h := find_loop l p (fun k i => slices_IndexFunc_Sapi_Choice_api_Choice_L1 fu n k (l.map choC) g c (l.length : Nat) i)
    (fun k => by rw [slices_IndexFunc_Sapi_Choice_api_Choice_L1_eq, cnd_decide, if_neg (by omega)])
    (fun k i hi => by
      have h1 := hf l[i]
      have h2 : npL ([.agg (choC l[i])] ++ c) = true := by rw [npL_append, hc]; rfl
      unfold choC at h1 h2
      rw [slices_IndexFunc_Sapi_Choice_api_Choice_L1_eq, cnd_decide, if_pos (by omega), rdCho hi, npG_pos h2, h1, rB_some, i64s (by omega)]
      cases p l[i] <;> rfl) l.length 0 fu (by omega) (by omega)
  rw [slices_IndexFunc_Sapi_Choice_api_Choice_eq, List.length_map]
  exact h
theorem value_ok (fu n : Nat) (v : List Choice) (hv : ValOk v) (f : ByteArray) (hfu : 1000000 ≤ fu) : ev fu (n + 3) 87 [valsM v, .str f] [] = some ([.list (strs (valL v f))], []) := by
  unfold valsM
  rw [review_value_eq, IndexFuncC_ok fu (n + 1) 121 _ (isC f) rfl (fun a => by
    show ev fu (n + 1) 121 [.agg (choC a), .cptr [.str f] 0] [] = _
    unfold choC
    rw [review_value_1_eq]; rfl) v (by have := hv.len; omega) hfu, rI_some]
  unfold valL
  rcases fIx_find (isC f) v 0 with ⟨h1, h2⟩ | ⟨k, a, h1, h2, h3⟩
  · rw [h1, h2]; rfl
  · rw [h1, h3, Nat.zero_add, cnd_decide, if_neg (by omega), rdn h2, gd_pos (choC_len _)]
    simp only [choC, cel_1, dL_list]
theorem ChoicesIn_ok (fu n : Nat) (v : List Choice) (hv : ValOk v) (f : ByteArray) (hfu : 1000000 ≤ fu) : ev fu (n + 1) 90 [valsM v, .str f] [] = some ([.list (strs (valL v f))], []) := by
  have h := loop_ok v (fun _ _ => True) (fun k i (_ : Unit) => chaseref2_ChoicesIn_L1 fu n k f (v.map choC) (v.length : Nat) i) (fun i _ c => if c.field = f then .inl (some ([.list (strs c.choices)], [])) else .inr ()) (fun _ => some ([.list []], []))
    (fun k s _ => by rw [chaseref2_ChoicesIn_L1_eq, cnd_decide, if_neg (by omega)])
    (fun k i _ hi _ => by
      have := hv.len
      rw [chaseref2_ChoicesIn_L1_eq, cnd_decide, if_pos (by omega), rdCho hi, cnd_decide, i64s (by omega)]
      by_cases e : v[i].field = f
      · simp only [if_pos e]
      · simp only [if_neg e]) (fun _ _ _ _ _ _ => trivial) v.length 0 fu () (by omega) (by have := hv.len; omega) trivial
  unfold valsM
  rw [chaseref2_ChoicesIn_eq, List.length_map]
  refine h.trans ?_
  rw [List.drop_zero]
  have e : ∀ (l : List Choice) (i : Nat), runL (σ := Unit) (fun i _ c => if c.field = f then .inl (some ([.list (strs c.choices)], [])) else .inr ()) (fun _ => some ([.list []], [])) i () l = some ([.list (strs (valL l f))], []) := by
    intro l
    induction l with
    | nil => intro i; rfl
    | cons a r ih =>
      intro i
      unfold runL valL
      rw [List.find?_cons]
      by_cases e : a.field = f
      · rw [show isC f a = true from decide_eq_true e]; simp only [if_pos e]
      · rw [show isC f a = false from decide_eq_false e]; simp only [if_neg e]
        exact ih (i + 1)
  exact e v 0
/-- Do values break a rule? -/
def brk (v : List Choice) (r : Rule) : Bool := ((valL v r.field).any fun x => decide (r.iff' = x)) && ((decide (0 < ((strs (valL v r.other)).length : Int)) && (decide (r.thn = ⟨#[]⟩) || (valL v r.other).any fun x => decide (r.thn = x))) == decide (r.kind = 2))
def brkL (v : List Choice) : Nat → List Rule → List Int
  | _, [] => []
  | i, r :: q => if brk v r then (i : Int) :: brkL v (i + 1) q else brkL v (i + 1) q
theorem brkL_len (v : List Choice) : ∀ (l : List Rule) (i : Nat), (brkL v i l).length ≤ l.length
  | [], i => Nat.le_refl _
  | r :: q, i => by
    unfold brkL
    have := brkL_len v q (i + 1)
    split
    · simp; omega
    · simp; omega
theorem brk_run (v : List Choice) (xs : List Rule) (hx : xs.length ≤ 200000) (L : Nat → List (List MV) → Int → Out)
    (h0 : ∀ k out, L (k + 1) out (xs.length : Nat) = some ([.ref 0], [some (.row false 1 out [])]))
    (h1 : ∀ k (i : Nat) (out : List Int) (hi : i < xs.length), out.length ≤ i → L (k + 1) (out.map i1) i = L k ((if brk v xs[i] then out ++ [(i : Int)] else out).map i1) ((i + 1 : Nat) : Int)) :
    ∀ (m i k : Nat) (out : List Int), i + m = xs.length → m < k → out.length ≤ i → L k (out.map i1) i = some ([.ref 0], [some (.row false 1 ((out ++ brkL v i (xs.drop i)).map i1) [])])
  | m, i, 0, out, hi, hk, ho => by omega
  | 0, i, k + 1, out, hi, hk, ho => by
    have : i = xs.length := by omega
    subst this
    rw [h0, List.drop_of_length_le (Nat.le_refl _), brkL, List.append_nil]
  | m + 1, i, k + 1, out, hi, hk, ho => by
    have hlt : i < xs.length := by omega
    have hlen : (if brk v xs[i] then out ++ [(i : Int)] else out).length ≤ i + 1 := by
      split
      · simp; omega
      · omega
    rw [h1 k i out hlt ho, brk_run v xs hx L h0 h1 m (i + 1) k _ (by omega) (by omega) hlen, List.drop_eq_getElem_cons hlt, brkL]
    split
    · rw [List.append_assoc]; rfl
    · rfl
/-! ### What streams make -/
theorem odd10_ok (fu n : Nat) (ls : List Int) (at_ lo hi : Int) (h0 : 0 ≤ at_) (h1 : at_ < 4000000000000000000) (hl : lo ≤ hi) (hb0 : -1000000000000 ≤ lo) (hb1 : hi ≤ 1000000000000) :
    ∃ v a, 0 ≤ a ∧ a ≤ at_ + 2 ∧ ev fu (n + 4) 40 [.ptr 0 0, .int .i64 lo, .int .i64 hi] (sb ls at_) = some ([.int .i64 v], sb ls a) := by
  obtain ⟨b, g1⟩ := Flip_ok fu n ls at_ 12 h0 (by omega)
  rw [chasemake_Stream_odd10_eq, g1, skB_some]
  cases b
  · obtain ⟨v, hv, g2⟩ := Range_ok fu n ls (at_ + 1) lo hi (by omega) (by omega) hl hb0 hb1
    rw [cnd_false, g2, skI_some]
    exact ⟨v, _, by omega, by omega, rfl⟩
  · obtain ⟨v, hv, g2⟩ := Pick_okL fu n ls (at_ + 1) [[.int .i64 (IntKind.i64.wrap (lo - 1))], [.int .i64 (IntKind.i64.wrap (hi + 1))], [.int .i64 lo], [.int .i64 hi], [.int .i64 (-1099511627776)], [.int .i64 1099511627776]] [IntKind.i64.wrap (lo - 1), IntKind.i64.wrap (hi + 1), lo, hi, -1099511627776, 1099511627776] rfl (by omega) (by omega) (by simp) (by simp)
    rw [cnd_true, g2, skI_some]
    exact ⟨v, _, by omega, by omega, rfl⟩
end Go.Pv
