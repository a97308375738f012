/- Chapter 6: layouts and values; the checks of both sides. -/
import Derived.Test.YtgffjfhdcdpolaaGreatDoorC1
set_option linter.unusedSimpArgs false
set_option linter.unusedVariables false
set_option maxRecDepth 100000
namespace Go.Pv
open Go Go.Proofs

/-! ### More of errors and searches -/
theorem cnd_err (x : Int) (o : Out) : cnd (!decide (x = 0)) (some ([.int .i64 x], [])) o = errO x o := by
  rw [cnd_not, cnd_decide]; unfold errO
  split <;> rfl
theorem cnd_errc (b : Bool) (c : Int) (hc : c ≠ 0) (o : Out) : cnd b (some ([.int .i64 c], [])) o = errO (if b then c else 0) o := by
  cases b
  · rfl
  · unfold errO; rw [if_pos rfl, if_neg hc]; rfl
theorem errO_errO (a b : Int) (o : Out) : errO a (errO b o) = errO (fnz [a, b]) o := by
  unfold errO fnz fnz fnz
  by_cases ha : a = 0
  · simp only [if_pos ha]
    by_cases hb : b = 0
    · simp only [if_pos hb, if_true]
    · simp only [if_neg hb]
  · simp only [if_neg ha]
theorem errO_fin (a : Int) : errO a (some ([.int .i64 0], [])) = some ([.int .i64 a], []) := by
  unfold errO; split
  · rename_i h; rw [h]
  · rfl
theorem fnz_app : ∀ (l m : List Int), fnz (l ++ m) = if fnz l = 0 then fnz m else fnz l
  | [], m => by simp [fnz]
  | a :: r, m => by
    simp only [List.cons_append, fnz]
    by_cases h : a = 0
    · simp only [if_pos h]; exact fnz_app r m
    · simp only [if_neg h]
theorem fnz_a (l m : List Int) : fnz (fnz l :: m) = fnz (l ++ m) := by
  rw [fnz_app]; rfl
theorem fnz_b (a : Int) (m : List Int) : fnz [a, fnz m] = fnz (a :: m) := by
  simp only [fnz]
  by_cases h : a = 0
  · simp only [if_pos h]
    by_cases h2 : fnz m = 0
    · simp only [if_pos h2]; exact h2.symm
    · simp only [if_neg h2]
  · simp only [if_neg h]
theorem fnz_c (l m : List Int) : fnz [fnz l, fnz m] = fnz (l ++ m) := by
  rw [fnz_app]; simp only [fnz]
  by_cases h : fnz l = 0
  · simp only [if_pos h]
    by_cases h2 : fnz m = 0
    · simp only [if_pos h2]; exact h2.symm
    · simp only [if_neg h2]
  · simp only [if_neg h]
theorem find_loop {α : Type} (xs : List α) (p : α → Bool) (L : Nat → Int → Out) (h0 : ∀ k, L (k + 1) (xs.length : Nat) = some ([.int .i64 (-1)], []))
    (h1 : ∀ k (i : Nat) (hi : i < xs.length), L (k + 1) i = if p xs[i] then some ([.int .i64 (i : Nat)], []) else L k ((i + 1 : Nat) : Int)) :
    ∀ (m i k : Nat), i + m = xs.length → m < k → L k i = some ([.int .i64 (fIx p i (xs.drop i))], [])
  | m, i, 0, hi, hk => by omega
  | 0, i, k + 1, hi, hk => by
    have : i = xs.length := by omega
    subst this
    rw [h0 k, List.drop_of_length_le (Nat.le_refl _)]; rfl
  | m + 1, i, k + 1, hi, hk => by
    have hlt : i < xs.length := by omega
    rw [h1 k i hlt, List.drop_eq_getElem_cons hlt, fIx]
    split
    · rfl
    · exact find_loop xs p L h0 h1 m (i + 1) k (by omega) (by omega)
theorem fIx_find {α : Type} (p : α → Bool) : ∀ (xs : List α) (i : Nat), (fIx p i xs = -1 ∧ xs.find? p = none) ∨ ∃ (k : Nat) (x : α), fIx p i xs = ((i + k : Nat) : Int) ∧ xs[k]? = some x ∧ xs.find? p = some x
  | [], i => .inl ⟨rfl, rfl⟩
  | x :: r, i => by
    unfold fIx
    rw [List.find?_cons]
    cases h : p x with
    | true => exact .inr ⟨0, x, by simp, rfl, rfl⟩
    | false =>
      rcases fIx_find p r (i + 1) with ⟨h1, h2⟩ | ⟨k, y, h1, h2, h3⟩
      · exact .inl ⟨h1, h2⟩
      · exact .inr ⟨k + 1, y, by rw [if_neg (by simp), h1]; congr 1; omega, by simpa using h2, h3⟩
theorem rdn {α β : Type} {f : β → List MV} {xs : List β} {i : Nat} {x : β} (h : xs[i]? = some x) (K : List MV → Option α) : rd (xs.map f) (i : Int) K = K (f x) := rd_nat (by simp [h]) K
section
variable (fu n : Nat) (hfu : 1000000 ≤ fu)
include hfu
theorem First2_ok (a b : Int) : ev fu (n + 1) 70 [.list [[.int .i64 a], [.int .i64 b]]] [] = some ([.int .i64 (fnz [a, b])], []) := First_ok fu n [a, b] hfu (by simp)
theorem First3_ok (a b c : Int) : ev fu (n + 1) 70 [.list [[.int .i64 a], [.int .i64 b], [.int .i64 c]]] [] = some ([.int .i64 (fnz [a, b, c])], []) := First_ok fu n [a, b, c] hfu (by simp)
theorem First4_ok (a b c d : Int) : ev fu (n + 1) 70 [.list [[.int .i64 a], [.int .i64 b], [.int .i64 c], [.int .i64 d]]] [] = some ([.int .i64 (fnz [a, b, c, d])], []) := First_ok fu n [a, b, c, d] hfu (by simp)
end

/-! ### Layouts -/
structure Ask where
  field : ByteArray
  choices : List ByteArray
  many : Bool
  spread : Int
structure Rule where
  kind : Int
  field : ByteArray
  iff' : ByteArray
  other : ByteArray
  thn : ByteArray
structure Lay where
  asks : List Ask
  rules : List Rule
structure Choice where
  field : ByteArray
  choices : List ByteArray
def askC (a : Ask) : List MV := [.str a.field, .list (strs a.choices), .bool a.many, .int .i64 a.spread]
def ruleC (r : Rule) : List MV := [.int .i64 r.kind, .str r.field, .str r.iff', .str r.other, .str r.thn]
def choC (c : Choice) : List MV := [.str c.field, .list (strs c.choices)]
@[simp] theorem askC_len (a : Ask) : (askC a).length = 4 := rfl
@[simp] theorem ruleC_len (a : Rule) : (ruleC a).length = 5 := rfl
@[simp] theorem choC_len (a : Choice) : (choC a).length = 2 := rfl
/-- Rows are not too long for the loops' clocks. -/
structure LayOk (L : Lay) : Prop where
  asks : L.asks.length ≤ 200000
  rules : L.rules.length ≤ 200000
  choices : ∀ a ∈ L.asks, a.choices.length ≤ 200000
structure ValOk (v : List Choice) : Prop where
  len : v.length ≤ 300000
  choices : ∀ c ∈ v, c.choices.length ≤ 200000

section
variable {α : Type}
theorem rdAsk {xs : List Ask} {i : Nat} (h : i < xs.length) (K : ByteArray → List (List MV) → Bool → Int → Option α) :
    rd (xs.map askC) (i : Int) (fun e => gd (e.length = 4) (gd (0 + 4 ≤ e.length) (unC (List.take 4 (List.drop 0 e)) fun m2 c3 => (dS m2 fun x4 => (unC c3 fun m5 c6 => (dL m5 fun x7 => (unC c6 fun m8 c9 => (dB m8 fun x10 => (unC c9 fun m11 c12 => (dI .i64 m11 fun x13 => (unN c12 (K x4 x7 x10 x13)))))))))))) =
      K xs[i].field (strs xs[i].choices) xs[i].many xs[i].spread := by
  rw [rdm h, gd_pos (askC_len _), gd_pos (by simp)]
  simp [askC]
theorem rdRule {xs : List Rule} {i : Nat} (h : i < xs.length) (K : Int → ByteArray → ByteArray → ByteArray → ByteArray → Option α) :
    rd (xs.map ruleC) (i : Int) (fun e => gd (e.length = 5) (gd (0 + 5 ≤ e.length) (unC (List.take 5 (List.drop 0 e)) fun m2 c3 => (dI .i64 m2 fun x4 => (unC c3 fun m5 c6 => (dS m5 fun x7 => (unC c6 fun m8 c9 => (dS m8 fun x10 => (unC c9 fun m11 c12 => (dS m11 fun x13 => (unC c12 fun m14 c15 => (dS m14 fun x16 => (unN c15 (K x4 x7 x10 x13 x16)))))))))))))) =
      K xs[i].kind xs[i].field xs[i].iff' xs[i].other xs[i].thn := by
  rw [rdm h, gd_pos (ruleC_len _), gd_pos (by simp)]
  simp [ruleC]
theorem rdCho {xs : List Choice} {i : Nat} (h : i < xs.length) (K : ByteArray → List (List MV) → Option α) :
    rd (xs.map choC) (i : Int) (fun e => gd (e.length = 2) (gd (0 + 2 ≤ e.length) (unC (List.take 2 (List.drop 0 e)) fun m2 c3 => (dS m2 fun x4 => (unC c3 fun m5 c6 => (dL m5 fun x7 => (unN c6 (K x4 x7)))))))) = K xs[i].field (strs xs[i].choices) := by
  rw [rdm h, gd_pos (choC_len _), gd_pos (by simp)]
  simp [choC]
end

def isF (f : ByteArray) (a : Ask) : Bool := decide (a.field = f)
def askIx (asks : List Ask) (f : ByteArray) : Int := fIx (isF f) 0 asks
theorem IndexFuncA_ok (fu n : Nat) (g : FuncId) (c : List MV) (p : Ask → Bool) (hc : npL c = true) (hf : ∀ a, ev fu n g ([.agg (askC a)] ++ c) [] = some ([.bool (p a)], [])) (l : List Ask) (hl : l.length ≤ 400000) (hfu : 1000000 ≤ fu) :
    ev fu (n + 1) 100 [.list (l.map askC), .fn g c] [] = some ([.int .i64 (fIx p 0 l)], []) := by
  have h := find_loop l p (fun k i => slices_IndexFunc_Sapi_Ask_api_Ask_L1 fu n k (l.map askC) g c (l.length : Nat) i)
    (fun k => by rw [slices_IndexFunc_Sapi_Ask_api_Ask_L1_eq, cnd_decide, if_neg (by omega)])
    (fun k i hi => by
      have h1 := hf l[i]
      have h2 : npL ([.agg (askC l[i])] ++ c) = true := by rw [npL_append, hc]; rfl
      unfold askC at h1 h2
      rw [slices_IndexFunc_Sapi_Ask_api_Ask_L1_eq, cnd_decide, if_pos (by omega), rdAsk hi, npG_pos h2, h1, rB_some, i64s (by omega)]
      cases p l[i] <;> rfl) l.length 0 fu (by omega) (by omega)
  rw [slices_IndexFunc_Sapi_Ask_api_Ask_eq, List.length_map]
  exact h
theorem ContainsFuncA_ok (fu n : Nat) (g : FuncId) (c : List MV) (p : Ask → Bool) (hc : npL c = true) (hf : ∀ a, ev fu n g ([.agg (askC a)] ++ c) [] = some ([.bool (p a)], [])) (l : List Ask) (hl : l.length ≤ 400000) (hfu : 1000000 ≤ fu) :
    ev fu (n + 2) 91 [.list (l.map askC), .fn g c] [] = some ([.bool (l.any p)], []) := by
  rw [slices_ContainsFunc_Sapi_Ask_api_Ask_eq, npG_pos (by simpa using hc), IndexFuncA_ok fu n g c p hc hf l hl hfu, rI_some, fIx_any]
theorem ask_ok (fu n : Nat) (L : Lay) (f : ByteArray) (hL : LayOk L) (hfu : 1000000 ≤ fu) : ev fu (n + 3) 88 [.agg [.list (L.asks.map askC), .list (L.rules.map ruleC)], .str f] [] = some ([.int .i64 (askIx L.asks f)], []) := by
  rw [review_ask_eq, IndexFuncA_ok fu (n + 1) 122 _ (isF f) rfl (fun a => by
    show ev fu (n + 1) 122 [.agg (askC a), .cptr [.str f] 0] [] = _
    unfold askC
    rw [review_ask_1_eq]; rfl) L.asks (by have := hL.asks; omega) hfu, rI_some]; rfl
theorem askAt_ok (fu n : Nat) (L : Lay) (f : ByteArray) (hL : LayOk L) (hfu : 1000000 ≤ fu) : ev fu (n + 3) 46 [.agg [.list (L.asks.map askC), .list (L.rules.map ruleC)], .str f] [] = some ([.int .i64 (askIx L.asks f)], []) := by
  rw [chaseref2_askAt_eq, IndexFuncA_ok fu (n + 1) 101 _ (isF f) rfl (fun a => by
    show ev fu (n + 1) 101 [.agg (askC a), .cptr [.str f] 0] [] = _
    unfold askC
    rw [chaseref2_askAt_1_eq]; rfl) L.asks (by have := hL.asks; omega) hfu, rI_some]; rfl

/-- Is a choice offered? -/
def offB (asks : List Ask) (f c : ByteArray) (e : Bool) : Bool := match asks.find? (isF f) with
  | some a => (e && decide (c = ⟨#[]⟩)) || a.choices.any fun x => decide (c = x)
  | none => false
theorem offers_ok (fu n : Nat) (L : Lay) (f c : ByteArray) (e : Bool) (hL : LayOk L) (hfu : 1000000 ≤ fu) : ev fu (n + 4) 86 [.agg [.list (L.asks.map askC), .list (L.rules.map ruleC)], .str f, .str c, .bool e] [] = some ([.bool (offB L.asks f c e)], []) := by
  rw [review_offers_eq, ask_ok fu n L f hL hfu, rI_some]
  unfold offB askIx
  rcases fIx_find (isF f) L.asks 0 with ⟨h1, h2⟩ | ⟨k, a, h1, h2, h3⟩
  · rw [h1, h2]; rfl
  · have hlen := hL.choices a (List.mem_of_getElem? h2)
    rw [h1, h3, Nat.zero_add, cnd_decide, if_pos (by omega), rdn h2, gd_pos (askC_len _)]
    simp only [askC, cel_1, dL_list]
    rw [ContainsS_ok fu (n + 1) a.choices c (by omega) hfu, rB_some]
    cases e
    · rfl
    · rw [cnd_true, cnd_decide]
      split
      · rename_i h; simp [h]
      · rename_i h; simp [h]
theorem hasChoice_ok (fu n : Nat) (L : Lay) (f c : ByteArray) (hL : LayOk L) (hfu : 1000000 ≤ fu) : ev fu (n + 4) 49 [.agg [.list (L.asks.map askC), .list (L.rules.map ruleC)], .str f, .str c] [] = some ([.bool (offB L.asks f c false)], []) := by
  rw [chaseref2_hasChoice_eq, askAt_ok fu n L f hL hfu, rI_some]
  unfold offB askIx
  rcases fIx_find (isF f) L.asks 0 with ⟨h1, h2⟩ | ⟨k, a, h1, h2, h3⟩
  · rw [h1, h2]; rfl
  · have hlen := hL.choices a (List.mem_of_getElem? h2)
    rw [h1, h3, Nat.zero_add, cnd_decide, if_pos (by omega), rdn h2, gd_pos (askC_len _)]
    simp only [askC, cel_1, dL_list]
    rw [ContainsS_ok fu (n + 1) a.choices c (by omega) hfu, rB_some]
    rfl

/-! ### The errors of a layout -/
def dupE (l : List ByteArray) (k : Nat) (c : ByteArray) : Int := fnz [if (!keyS c) = true then 5 else 0, if ((l.take k).any fun x => decide (c = x)) = true then 6 else 0]
def choE (l : List ByteArray) : Int := (errL (σ := Unit) (fun k _ c => dupE l k c) (fun _ s _ => s) 0 () l).1
def askE (asks : List Ask) (i : Nat) (a : Ask) : Int :=
  fnz [if (!keyS a.field) = true then 5 else 0, if (asks.take i).any (isF a.field) = true then 6 else 0, if decide (((strs a.choices).length : Int) = 0) = true then 3 else 0, if decide (30 < ((strs a.choices).length : Int)) = true then 2 else 0, choE a.choices, if (!inB a.spread 0 2) = true then 4 else 0]
def ruleE (asks : List Ask) (r : Rule) : Int := fnz [if (!inB r.kind 1 2) = true then 4 else 0, if (!(offB asks r.field r.iff' false && offB asks r.other r.thn true)) = true then 8 else 0, if decide (r.field = r.other) = true then 14 else 0]
def layE (L : Lay) : Int := fnz [if decide (((L.asks.map askC).length : Int) = 0) = true then 3 else 0, if decide (40 < ((L.asks.map askC).length : Int)) = true then 2 else 0, (errL (σ := Unit) (fun i _ a => askE L.asks i a) (fun _ s _ => s) 0 () L.asks).1,
  if decide (60 < ((L.rules.map ruleC).length : Int)) = true then 2 else 0, (errL (σ := Unit) (fun _ _ r => ruleE L.asks r) (fun _ s _ => s) 0 () L.rules).1]

theorem CheckLayout_L3 (fu n : Nat) (L : Lay) (hL : LayOk L) (hfu : 1000000 ≤ fu) :
    review_CheckLayout_L3 fu (n + 4) fu (L.asks.map askC) (L.rules.map ruleC) (L.rules.map ruleC) ((L.rules.map ruleC).length : Nat) (0 : Int) = some ([.int .i64 (errL (σ := Unit) (fun _ _ r => ruleE L.asks r) (fun _ s _ => s) 0 () L.rules).1], []) := by
  have h := err_loop L.rules (fun k i (_ : Unit) => review_CheckLayout_L3 fu (n + 4) k (L.asks.map askC) (L.rules.map ruleC) (L.rules.map ruleC) (L.rules.length : Nat) i) (fun _ _ r => ruleE L.asks r) (fun _ s _ => s) (fun _ => some ([.int .i64 0], []))
    (fun k s => by rw [review_CheckLayout_L3_eq, cnd_decide, if_neg (by omega)])
    (fun k i s hi => by
      have := hL.rules
      rw [review_CheckLayout_L3_eq, cnd_decide, if_pos (by omega), rdRule hi]
      simp only [eqM_self', When_ok, rI_some, offers_ok fu n L _ _ _ hL hfu, rB_some, First3_ok fu (n + 3) hfu, cnd_err, i64s (show i < 9223372036854775807 by omega)]
      have e1 : (!inB L.rules[i].kind 1 2) = (!decide (L.rules[i].kind = 1) && !decide (L.rules[i].kind = 2)) := by
        unfold inB
        by_cases h1 : L.rules[i].kind = 1
        · simp [h1]
        · by_cases h2 : L.rules[i].kind = 2
          · simp [h2]
          · simp [h1, h2]; omega
      unfold ruleE
      rw [e1]
      cases decide (L.rules[i].kind = 1) <;> cases offB L.asks L.rules[i].field L.rules[i].iff' false <;> cases offB L.asks L.rules[i].other L.rules[i].thn true <;> rfl) L.rules.length 0 fu () (by omega) (by have := hL.rules; omega)
  rw [List.length_map]
  refine h.trans ?_
  rw [List.drop_zero, errO_fin]
theorem CheckLayout_L2 (fu n k1 : Nat) (L : Lay) (a : Ask) (i : Nat) (hfu : 1000000 ≤ fu) (hl : a.choices.length ≤ 200000) (hi : i ≤ 200000) :
    review_CheckLayout_L2 fu (n + 4) k1 fu (L.asks.map askC) (L.rules.map ruleC) a.field (strs a.choices) a.many a.spread (L.asks.map askC) (L.asks.length : Nat) i (strs a.choices) ((strs a.choices).length : Nat) (0 : Int) =
      errO (fnz [choE a.choices, if (!inB a.spread 0 2) = true then 4 else 0]) (review_CheckLayout_L1 fu (n + 4) k1 (L.asks.map askC) (L.rules.map ruleC) (L.asks.map askC) (L.asks.length : Nat) ((i + 1 : Nat) : Int)) := by
  have h := err_loop a.choices (fun k j (_ : Unit) => review_CheckLayout_L2 fu (n + 4) k1 k (L.asks.map askC) (L.rules.map ruleC) a.field (strs a.choices) a.many a.spread (L.asks.map askC) (L.asks.length : Nat) i (strs a.choices) (a.choices.length : Nat) j) (fun k _ c => dupE a.choices k c) (fun _ s _ => s)
    (fun _ => errO (if (!inB a.spread 0 2) = true then 4 else 0) (review_CheckLayout_L1 fu (n + 4) k1 (L.asks.map askC) (L.rules.map ruleC) (L.asks.map askC) (L.asks.length : Nat) ((i + 1 : Nat) : Int)))
    (fun k s => by rw [review_CheckLayout_L2_eq, cnd_decide, if_neg (by omega), In_ok, rB_some, cnd_errc _ _ (by decide), i64s (by omega)])
    (fun k j s hj => by
      rw [review_CheckLayout_L2_eq, cnd_decide, if_pos (by omega)]
      unfold strs
      rw [rdm hj, gd_pos (sS_len _)]
      simp only [eqM_self', slL_take sS_len a.choices (Nat.le_of_lt hj), sS, cel_zero, dS_str]
      have h1 := ContainsS_ok fu (n + 2) (a.choices.take j) a.choices[j] (by simp; omega) hfu
      unfold strs at h1
      rw [Key_ok fu (n + 2) a.choices[j] hfu, rB_some, When_ok, rI_some, show (List.map sS (List.take j a.choices)) = (List.map sS (List.take j a.choices)) from rfl, h1, rB_some, When_ok, rI_some, First2_ok fu (n + 3) hfu, rI_some, cnd_err, i64s (by omega)]
      rfl) a.choices.length 0 fu () (by omega) (by omega)
  rw [strs_len]
  refine h.trans ?_
  rw [List.drop_zero, errO_errO]; rfl
end Go.Pv
