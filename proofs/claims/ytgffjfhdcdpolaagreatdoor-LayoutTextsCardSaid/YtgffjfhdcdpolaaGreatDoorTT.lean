/- Plain: a string cut at each byte of one kind, all at once and one by one. -/
import Derived.Test.YtgffjfhdcdpolaaGreatDoorH2
import Derived.Test.YtgffjfhdcdpolaaGreatDoorC5
import Derived.Test.YtgffjfhdcdpolaaGreatDoorCK
import Derived.Test.YtgffjfhdcdpolaaGreatDoorCD
set_option linter.unusedSimpArgs false
set_option linter.unusedVariables false
set_option maxRecDepth 100000
namespace Go.Pv
open Go Go.Proofs

/-- The pieces between the bytes c. -/
def sp (c : UInt8) : List UInt8 → List (List UInt8)
  | [] => [[]]
  | b :: l => if b = c then [] :: sp c l else match sp c l with
    | h :: t => (b :: h) :: t
    | [] => [[b]]
theorem sp_ne (c : UInt8) : ∀ l, sp c l ≠ []
  | [] => by simp [sp]
  | b :: l => by
    unfold sp
    split
    · simp
    · split <;> simp
theorem splitK_sp (c : UInt8) : ∀ l : List UInt8, Go.Lib.splitK [c] 0 (Go.Lib.count l [c]) l = sp c l
  | [] => rfl
  | b :: l => by
    have ih := splitK_sp c l
    by_cases h : b = c
    · subst h
      rw [Go.Lib.count_cons_eq, Nat.add_comm]
      have h0 : Go.Lib.index (b :: l) [b] = 0 := by simp [Go.Lib.index, List.isPrefixOf]
      simp only [Go.Lib.splitK, h0, sp, if_true]
      rw [if_neg (by decide)]
      simpa using ih
    · rw [Go.Lib.count_cons_ne b c l h]
      have hb : ([c] : List UInt8).isPrefixOf (b :: l) = false := by simp [List.isPrefixOf, Ne.symm h]
      have h0 : Go.Lib.index (b :: l) [c] = if Go.Lib.index l [c] == -1 then -1 else Go.Lib.index l [c] + 1 := by
        rw [Go.Lib.index, hb]; simp
      have hge := Go.Lib.index_ge l [c]
      rw [sp, if_neg h, ← ih]
      by_cases hm : Go.Lib.index l [c] = -1
      · rw [Go.Lib.count_miss hm]; rfl
      · obtain ⟨j, hj⟩ : ∃ j : Nat, Go.Lib.index l [c] = j := ⟨(Go.Lib.index l [c]).toNat, by omega⟩
        rw [Go.Lib.count_hit (by simp) hj, Nat.add_comm 1]
        have e1 : Go.Lib.index (b :: l) [c] = ((j + 1 : Nat) : Int) := by rw [h0, if_neg (by simpa using hm), hj]; rfl
        simp only [Go.Lib.splitK, e1, hj]
        rw [if_neg (by simp; omega), if_neg (by simp)]
        simp
theorem sp_snoc (c : UInt8) : ∀ l : List UInt8, sp c (l ++ [c]) = sp c l ++ [[]]
  | [] => by simp [sp]
  | b :: l => by
    have ih := sp_snoc c l
    rw [List.cons_append, sp, sp, ih]
    by_cases h : b = c
    · rw [if_pos h, if_pos h, List.cons_append]
    · rw [if_neg h, if_neg h]
      cases hs : sp c l with
      | nil => exact absurd hs (sp_ne c l)
      | cons y t => rfl
theorem sp_last (c : UInt8) : ∀ l : List UInt8, l ≠ [] → l.getLast? ≠ some c → (sp c l).getLast? ≠ some []
  | [], h, _ => absurd rfl h
  | [b], _, hl => by
    have h : b ≠ c := by simpa using hl
    simp [sp, h]
  | b :: b2 :: l, _, hl => by
    have ih := sp_last c (b2 :: l) (by simp) (by simpa [List.getLast?_cons_cons] using hl)
    rw [sp]
    by_cases h : b = c
    · rw [if_pos h]
      cases hs : sp c (b2 :: l) with
      | nil => exact absurd hs (sp_ne c _)
      | cons y t => rw [List.getLast?_cons_cons, ← hs]; exact ih
    · rw [if_neg h]
      cases hs : sp c (b2 :: l) with
      | nil => exact absurd hs (sp_ne c _)
      | cons y t =>
        rw [hs] at ih
        cases t with
        | nil => simp
        | cons z t => simpa [List.getLast?_cons_cons] using ih
/-! ### Over byte arrays -/
def pieces (c : UInt8) (s : ByteArray) : List ByteArray := Go.Lib.splitB ⟨#[c]⟩ 0 (Go.Lib.countB s ⟨#[c]⟩) s
theorem pieces_sp (c : UInt8) (s : ByteArray) : pieces c s = (sp c s.data.toList).map fun l => ⟨l.toArray⟩ := by
  have h : (pieces c s).map (·.data.toList) = sp c s.data.toList := by
    unfold pieces
    rw [Go.Lib.splitB_data]
    exact splitK_sp c s.data.toList
  rw [← h, List.map_map]
  conv => lhs; rw [← List.map_id (pieces c s)]
  refine List.map_congr_left (fun x _ => ?_)
  simp
theorem pieces_miss (c : UInt8) (s : ByteArray) (h : Go.Lib.indexB s ⟨#[c]⟩ = -1) : pieces c s = [s] := Go.Lib.splitB_miss _ _ _ _ h
theorem pieces_hit (c : UInt8) (s : ByteArray) (i : Nat) (h : Go.Lib.indexB s ⟨#[c]⟩ = i) : pieces c s = s.extract 0 i :: pieces c (s.extract (i + 1) s.size) := by
  unfold pieces
  rw [Go.Lib.countB_hit s ⟨#[c]⟩ i (Nat.le_refl 1) h, Nat.add_comm 1, Go.Lib.splitB_hit _ _ _ _ i h]
  rfl
theorem pieces_snoc (c : UInt8) (s : ByteArray) : pieces c (s ++ ⟨#[c]⟩) = pieces c s ++ [⟨#[]⟩] := by
  rw [pieces_sp, pieces_sp]
  have : (s ++ (⟨#[c]⟩ : ByteArray)).data.toList = s.data.toList ++ [c] := by simp
  rw [this, sp_snoc, List.map_append]; rfl
theorem pieces_ne (c : UInt8) (s : ByteArray) : pieces c s ≠ [] := by
  rw [pieces_sp]; simp [sp_ne]
theorem pieces_last (c : UInt8) (s : ByteArray) (h0 : s ≠ ⟨#[]⟩) (h : s.data.toList.getLast? ≠ some c) : ∀ x, (pieces c s).getLast? = some x → x ≠ ⟨#[]⟩ := by
  intro x hx hx0
  subst hx0
  rw [pieces_sp, List.getLast?_map] at hx
  have hs : s.data.toList ≠ [] := fun e => h0 (by
    have : s.data = #[] := by simpa using e
    cases s; simp at this; subst this; rfl)
  have := sp_last c s.data.toList hs h
  cases hl : (sp c s.data.toList).getLast? with
  | none => rw [hl] at hx; simp at hx
  | some y =>
    rw [hl] at hx this
    simp at hx
    subst hx
    exact this rfl
/-! ### Line by line -/
section
variable {σ : Type} (step : σ → ByteArray → Option σ)
/-- Each piece is taken; the last one must be empty. The number of the wrong one; or what comes of all. -/
def rl : Nat → σ → List ByteArray → Nat ⊕ σ
  | _, st, [] => .inr st
  | i, st, [x] => if x = ⟨#[]⟩ then .inr st else .inl i
  | i, st, x :: y :: r => match step st x with
    | none => .inl i
    | some st' => rl (i + 1) st' (y :: r)
/-- Each line is taken; if the last one is not ended, it is the wrong one. -/
def rv (whole : Bool) (n : Nat) : Nat → σ → List ByteArray → Nat ⊕ σ
  | _, st, [] => .inr st
  | i, st, x :: r => match step st x with
    | none => .inl i
    | some st' => if !whole && i + 1 == n then .inl i else rv whole n (i + 1) st' r
theorem rv_whole (n : Nat) : ∀ (Q : List ByteArray) (i : Nat) (st : σ), rv step true n i st Q = rl step i st (Q ++ [⟨#[]⟩])
  | [], i, st => by simp [rv, rl]
  | x :: r, i, st => by
    have e : ∃ y q, r ++ [(⟨#[]⟩ : ByteArray)] = y :: q := by cases r <;> simp
    obtain ⟨y, q, e⟩ := e
    rw [List.cons_append, e, rv, rl]
    cases step st x with
    | none => rfl
    | some st' =>
      simp only [Bool.not_true, Bool.false_and, Bool.false_eq_true, if_false]
      rw [← e]
      exact rv_whole n r (i + 1) st'
theorem rv_part (n : Nat) : ∀ (Q : List ByteArray) (i : Nat) (st : σ), Q ≠ [] → i + Q.length = n → (∀ x, Q.getLast? = some x → x ≠ ⟨#[]⟩) → rv step false n i st Q = rl step i st Q
  | [], i, st, h, _, _ => absurd rfl h
  | [x], i, st, _, hn, hl => by
    have hx := hl x rfl
    have hn' : (i + 1 == n) = true := by simpa using hn
    rw [rv, rl, if_neg hx]
    cases step st x with
    | none => rfl
    | some st' => simp [hn']
  | x :: y :: r, i, st, _, hn, hl => by
    have hn' : (i + 1 == n) = false := by simp at hn ⊢; omega
    rw [rv, rl]
    cases step st x with
    | none => rfl
    | some st' =>
      simp only [Bool.not_false, Bool.true_and, hn', Bool.false_eq_true, if_false]
      exact rv_part n (y :: r) (i + 1) st' (by simp) (by simp at hn ⊢; omega) (fun z hz => hl z (by rw [List.getLast?_cons_cons]; exact hz))
end
end Go.Pv
/- Lines of texts: cutting and taking, both sides. -/
namespace Go.Pv
open Go Go.Proofs

theorem Index_ev (fu n : Nat) (s c : ByteArray) (h : s.size < 4294967281) : ev fu (n + 1) 173 [.str s, .str c] [] = some ([.int .i64 (Go.Lib.indexB s c)], []) := by
  have h1 : ev fu (n + 1) 173 [.str s, .str c] [] = indexH (evs fu n) [.str s, .str c] [] := rfl
  rw [h1]; exact if_pos h
theorem Split_ev (fu n : Nat) (s : ByteArray) (c : UInt8) (h : s.size < 4294967281) : ev fu (n + 1) 60 [.str s, .str ⟨#[c]⟩] [] = some ([.list (strs (pieces c s))], []) := by
  have h1 : ev fu (n + 1) 60 [.str s, .str ⟨#[c]⟩] [] = splitH (evs fu n) [.str s, .str ⟨#[c]⟩] [] := rfl
  rw [h1]; exact if_pos ⟨h, Nat.le_refl 1⟩
theorem Cut_hit (fu n : Nat) (s : ByteArray) (c : UInt8) (h : s.size < 4294967281) (i : Nat) (hi : Go.Lib.indexB s ⟨#[c]⟩ = i) : ev fu (n + 3) 105 [.str s, .str ⟨#[c]⟩] [] = some ([.str (s.extract 0 i), .str (s.extract (i + 1) s.size), .bool true], []) := by
  have hb : i + 1 ≤ s.size := by
    rcases Go.Lib.indexB_cases s ⟨#[c]⟩ with h1 | ⟨k, h1, h2⟩
    · omega
    · have : k = i := by omega
      subst this; exact h2
  have hw : IntKind.i64.wrap ((i : Int) + ((⟨#[c]⟩ : ByteArray).size : Int)) = ((i + 1 : Nat) : Int) := i64s (by omega)
  rw [strings_Cut_eq, internal_stringslite_Cut_eq, Index_ev fu n s _ h, hi, rI_some, cnd_decide, if_pos (by omega)]
  simp only [hw, slS_pos (show 0 ≤ ((0 : Nat) : Int) ∧ ((0 : Nat) : Int) ≤ (i : Int) ∧ (i : Int) ≤ (s.size : Int) by omega), slS_pos (show 0 ≤ ((i + 1 : Nat) : Int) ∧ ((i + 1 : Nat) : Int) ≤ (s.size : Int) ∧ (s.size : Int) ≤ (s.size : Int) by omega), eqM_self', callE_some', unXN_nil, unC_cons, dS_str, dB_bool, unN_nil, Int.toNat_natCast]
theorem Cut_miss (fu n : Nat) (s : ByteArray) (c : UInt8) (h : s.size < 4294967281) (hi : Go.Lib.indexB s ⟨#[c]⟩ = -1) : ev fu (n + 3) 105 [.str s, .str ⟨#[c]⟩] [] = some ([.str s, .str ⟨#[]⟩, .bool false], []) := by
  rw [strings_Cut_eq, internal_stringslite_Cut_eq, Index_ev fu n s _ h, hi, rI_some, cnd_decide, if_neg (by omega)]
  simp only [callE_some', unXN_nil, unC_cons, dS_str, dB_bool, unN_nil]
/-! ### A text's lines -/
theorem ends_split (s : ByteArray) (c : UInt8) (h : s.data.toList.getLast? = some c) : s.extract (s.size - 1) s.size = ⟨#[c]⟩ ∧ s.extract 0 (s.size - 1) ++ ⟨#[c]⟩ = s := by
  obtain ⟨l, hl⟩ : ∃ l, s.data.toList = l ++ [c] := by
    rw [List.getLast?_eq_some_iff] at h
    obtain ⟨l, hl⟩ := h
    exact ⟨l, hl⟩
  have hs : s = ⟨(l ++ [c]).toArray⟩ := by
    apply ByteArray.ext; apply Array.ext'; rw [hl]
  subst hs
  refine ⟨?_, ?_⟩
  · apply ByteArray.ext
    simp [ByteArray.size]
  · apply ByteArray.ext
    simp [ByteArray.size]
theorem ends_not (s : ByteArray) (c : UInt8) (h : s.data.toList.getLast? ≠ some c) (hs : 1 ≤ s.size) : s.extract (s.size - 1) s.size ≠ ⟨#[c]⟩ := by
  intro e
  apply h
  have h1 := congrArg (fun b => b.data.toList[0]?) e
  have h2 : (s.extract (s.size - 1) s.size).data.toList[0]? = s.data.toList[s.data.toList.length - 1]? := by
    have e1 : (s.extract (s.size - 1) s.size).data.toList = (s.data.toList.drop (s.size - 1)).take (s.size - (s.size - 1)) := by
      simp only [ByteArray.data_extract, Array.toList_extract, List.extract]
    rw [e1, List.getElem?_take, if_pos (by omega), List.getElem?_drop, Nat.add_zero]
    rfl
  rw [List.getLast?_eq_getElem?, ← h2]
  exact h1
/-- What base.Lines says. -/
def linesOf (s : ByteArray) : List ByteArray × Bool := if s = ⟨#[]⟩ then ([], true) else if s.data.toList.getLast? = some 10 then (pieces 10 (s.extract 0 (s.size - 1)), true) else (pieces 10 s, false)
theorem size_pos {s : ByteArray} (h : s ≠ ⟨#[]⟩) : 1 ≤ s.size := by
  rcases Nat.eq_zero_or_pos s.size with h0 | h0
  · exfalso; apply h
    apply ByteArray.ext
    exact Array.eq_empty_of_size_eq_zero h0
  · exact h0
theorem Lines_ok (fu n : Nat) (s : ByteArray) (h : s.size < 4294967281) : ev fu (n + 4) 103 [.str s] [] = some ([.list (strs (linesOf s).1), .bool (linesOf s).2], []) := by
  unfold linesOf
  rw [base_Lines_eq, cnd_decide]
  by_cases h0 : s = ⟨#[]⟩
  · rw [if_pos h0, if_pos h0]; rfl
  · have hp := size_pos h0
    rw [if_neg h0, if_neg h0]
    have hw : IntKind.i64.wrap ((s.size : Int) - ((⟨#[10]⟩ : ByteArray).size : Int)) = ((s.size - 1 : Nat) : Int) := by
      have e : (s.size : Int) - ((⟨#[10]⟩ : ByteArray).size : Int) = ((s.size - 1 : Nat) : Int) := by
        show (s.size : Int) - 1 = _
        omega
      rw [e, w64 (by omega) (by omega)]
    have hle : (((⟨#[10]⟩ : ByteArray).size : Nat) : Int) ≤ (s.size : Int) := by show (1 : Int) ≤ _; omega
    have e1 : ev fu (n + 1) 202 [.str s, .str ⟨#[10]⟩] [] = some ([.bool (decide (s.extract (s.size - 1) s.size = ⟨#[10]⟩))], []) := by
      rw [internal_stringslite_HasSuffix_eq, decide_eq_true hle, cnd_true, hw, slS_pos (by omega)]; simp
    have e2 : ev fu (n + 3) 130 [.str s, .str ⟨#[10]⟩] [] = if s.data.toList.getLast? = some 10 then some ([.str (s.extract 0 (s.size - 1)), .bool true], []) else some ([.str s, .bool false], []) := by
      rw [strings_CutSuffix_eq, internal_stringslite_CutSuffix_eq, e1, rB_some]
      by_cases hl : s.data.toList.getLast? = some 10
      · rw [if_pos hl, decide_eq_true (ends_split s 10 hl).1, Bool.not_true, cnd_false, hw, slS_pos (by omega)]
        simp only [callE_some', unXN_nil, unC_cons, dS_str, dB_bool, unN_nil, Int.toNat_natCast]
      · rw [if_neg hl, decide_eq_false (ends_not s 10 hl hp), Bool.not_false, cnd_true]
        simp only [callE_some', unXN_nil, unC_cons, dS_str, dB_bool, unN_nil]
    have hx : (s.extract 0 (s.size - 1)).size < 4294967281 := by simp [ByteArray.size_extract]; omega
    rw [e2]
    by_cases hl : s.data.toList.getLast? = some 10
    · rw [if_pos hl, if_pos hl]
      simp only [callE_some', unXN_nil, unC_cons, dS_str, dB_bool, unN_nil, Split_ev fu (n + 2) _ _ hx, rL_some]
    · rw [if_neg hl, if_neg hl]
      simp only [callE_some', unXN_nil, unC_cons, dS_str, dB_bool, unN_nil, Split_ev fu (n + 2) _ _ h, rL_some]
/-- Both sides see the same lines. -/
theorem lines_same {σ : Type} (step : σ → ByteArray → Option σ) (s : ByteArray) (st : σ) : rv step (linesOf s).2 (linesOf s).1.length 0 st (linesOf s).1 = rl step 0 st (pieces 10 s) := by
  unfold linesOf
  by_cases h0 : s = ⟨#[]⟩
  · subst h0
    rw [if_pos rfl]; rfl
  · rw [if_neg h0]
    by_cases hl : s.data.toList.getLast? = some 10
    · rw [if_pos hl]
      have e : pieces 10 s = pieces 10 (s.extract 0 (s.size - 1)) ++ [⟨#[]⟩] := by
        rw [← pieces_snoc, (ends_split s 10 hl).2]
      rw [e]
      exact rv_whole step _ _ _ _
    · rw [if_neg hl]
      exact rv_part step _ _ _ _ (pieces_ne 10 s) (by simp) (pieces_last 10 s h0 hl)
end Go.Pv
/- Reading layouts: one line, both sides. -/
namespace Go.Pv
open Go Go.Proofs

def wAsk : ByteArray := ⟨#[97, 115, 107]⟩
def wOne : ByteArray := ⟨#[111, 110, 101]⟩
def wMany : ByteArray := ⟨#[109, 97, 110, 121]⟩
def wRule : ByteArray := ⟨#[114, 117, 108, 101]⟩
def wNeeds : ByteArray := ⟨#[110, 101, 101, 100, 115]⟩
def wBars : ByteArray := ⟨#[98, 97, 114, 115]⟩
def wSpreads : List ByteArray := [⟨#[110, 111, 110, 101]⟩, ⟨#[115, 97, 109, 101]⟩, ⟨#[102, 97, 109, 105, 108, 121]⟩]
/-- The line of a field. -/
def askW : List ByteArray → Option Ask
  | w0 :: w1 :: w2 :: w3 :: t => if w0 = wAsk ∧ (w2 = wOne ∨ w2 = wMany) ∧ 0 ≤ sIx w3 wSpreads then some ⟨w1, t, decide (w2 = wMany), sIx w3 wSpreads⟩ else none
  | _ => none
/-- The line of a rule. -/
def ruleW : List ByteArray → Option Rule
  | [w0, w1, w2, w3, w4] => if w0 = wRule ∧ (w1 = wNeeds ∨ w1 = wBars) then some ⟨if w1 = wBars then 2 else 1, w2, w3, w4, ⟨#[]⟩⟩ else none
  | [w0, w1, w2, w3, w4, w5] => if w0 = wRule ∧ (w1 = wNeeds ∨ w1 = wBars) then some ⟨if w1 = wBars then 2 else 1, w2, w3, w4, w5⟩ else none
  | _ => none
def stepW (st : List Ask × List Rule) (w : List ByteArray) : Option (List Ask × List Rule) := match askW w, st.2 with
  | some a, [] => some (st.1 ++ [a], [])
  | _, _ => match ruleW w with
    | some r => some (st.1, st.2 ++ [r])
    | none => none
def stepL (st : List Ask × List Rule) (line : ByteArray) : Option (List Ask × List Rule) := if (pieces 32 line).any (fun x => decide (x = ⟨#[]⟩)) then none else stepW st (pieces 32 line)
theorem spreads_ok (fu n : Nat) : ev fu (n + 2) 44 [] [] = some ([.list (strs wSpreads)], []) := by
  rw [review_spreads_eq]
  have h1 : ev fu (n + 1) 98 [.str ⟨#[110, 111, 110, 101, 32, 115, 97, 109, 101, 32, 102, 97, 109, 105, 108, 121]⟩] [] = some ([.list (strs wSpreads)], []) := by kernel_rfl
  rw [h1, rL_some]
/-- Words by their numbers. -/
theorem rdW {w : List ByteArray} {i : Nat} {x : ByteArray} (h : w[i]? = some x) (K : ByteArray → Out) : rd (strs w) (i : Int) (fun e => gd (e.length = 1) (cel e 0 fun m => dS m K)) = K x := by
  have h' : (strs w)[i]? = some (sS x) := by unfold strs; rw [List.getElem?_map, h]; rfl
  rw [rd_nat h', gd_pos (sS_len _)]
  simp only [sS, cel_zero, dS_str]
theorem slW {w : List ByteArray} (h : 4 ≤ w.length) (K : List (List MV) → Out) : slL 1 (strs w) (4 : Int) ((w.length : Nat) : Int) K = K (strs (w.drop 4)) := by
  rw [slL_pos (by simp; omega)]
  · congr 1
    unfold strs
    simp only [Int.toNat_natCast, List.map_drop]
    exact List.take_of_length_le (by simp)
  · unfold widAt
    split
    · rename_i e he
      have := List.mem_of_getElem? he
      unfold strs at this
      obtain ⟨x, _, rfl⟩ := List.mem_map.1 this
      rfl
    · rfl
theorem askLine_ok (fu n : Nat) (w : List ByteArray) (hl : w.length ≤ 400000) (hfu : 1000000 ≤ fu) :
    (∀ a, askW w = some a → ev fu (n + 3) 56 [.list (strs w)] [] = some ([.agg (askC a), .bool true], [])) ∧
    (askW w = none → ∃ f cs b q, ev fu (n + 3) 56 [.list (strs w)] [] = some ([.agg [.str f, .list cs, .bool b, .int .i64 q], .bool false], [])) := by
  rw [review_askLine_eq, strs_len, cnd_decide]
  by_cases h4 : (w.length : Int) < 4
  · rw [if_pos h4]
    have hn : askW w = none := by
      rcases w with _ | ⟨w0, _ | ⟨w1, _ | ⟨w2, _ | ⟨w3, t⟩⟩⟩⟩ <;> first | rfl | (simp at h4; omega)
    exact ⟨fun a ha => (by rw [hn] at ha; cases ha), fun _ => ⟨_, _, _, _, rfl⟩⟩
  · rw [if_neg h4]
    obtain ⟨w0, w1, w2, w3, t, rfl⟩ : ∃ w0 w1 w2 w3 t, w = w0 :: w1 :: w2 :: w3 :: t := by
      rcases w with _ | ⟨w0, _ | ⟨w1, _ | ⟨w2, _ | ⟨w3, t⟩⟩⟩⟩
      · simp at h4
      · simp at h4
      · simp at h4
      · simp at h4
      · exact ⟨w0, w1, w2, w3, t, rfl⟩
    have r0 : ∀ K : ByteArray → Out, rd (strs (w0 :: w1 :: w2 :: w3 :: t)) (0 : Int) (fun e => gd (e.length = 1) (cel e 0 fun m => dS m K)) = K w0 := fun K => rdW (i := 0) rfl K
    have r1 : ∀ K : ByteArray → Out, rd (strs (w0 :: w1 :: w2 :: w3 :: t)) (1 : Int) (fun e => gd (e.length = 1) (cel e 0 fun m => dS m K)) = K w1 := fun K => rdW (i := 1) rfl K
    have r2 : ∀ K : ByteArray → Out, rd (strs (w0 :: w1 :: w2 :: w3 :: t)) (2 : Int) (fun e => gd (e.length = 1) (cel e 0 fun m => dS m K)) = K w2 := fun K => rdW (i := 2) rfl K
    have r3 : ∀ K : ByteArray → Out, rd (strs (w0 :: w1 :: w2 :: w3 :: t)) (3 : Int) (fun e => gd (e.length = 1) (cel e 0 fun m => dS m K)) = K w3 := fun K => rdW (i := 3) rfl K
    have sl : ∀ K : List (List MV) → Out, slL 1 (strs (w0 :: w1 :: w2 :: w3 :: t)) (4 : Int) (((w0 :: w1 :: w2 :: w3 :: t).length : Nat) : Int) K = K (strs t) := fun K => slW (by simp) K
    have ht : t.length ≤ 400000 := by simp at hl; omega
    simp only [r0, r1, r2, r3, sl, eqM_self', spreads_ok fu n, rL_some, IndexS_ok fu (n + 1) wSpreads w3 (by decide) hfu, rI_some, CloneS_ok fu (n + 1) t ht, rO_some]
    have ea : askW (w0 :: w1 :: w2 :: w3 :: t) = if w0 = wAsk ∧ (w2 = wOne ∨ w2 = wMany) ∧ 0 ≤ sIx w3 wSpreads then some ⟨w1, t, decide (w2 = wMany), sIx w3 wSpreads⟩ else none := rfl
    rw [ea]
    by_cases c0 : w0 = wAsk
    · rw [(show decide (w0 = (⟨#[97, 115, 107]⟩ : ByteArray)) = true from decide_eq_true c0), Bool.not_true, cnd_false]
      by_cases c1 : w2 = wOne
      · have hne : ¬ w2 = wMany := by subst c1; decide
        rw [(show decide (w2 = (⟨#[111, 110, 101]⟩ : ByteArray)) = true from decide_eq_true c1), Bool.not_true, cnd_false]
        by_cases c3 : 0 ≤ sIx w3 wSpreads
        · rw [if_pos ⟨c0, .inl c1, c3⟩]
          refine ⟨fun a ha => ?_, fun h => (by cases h)⟩
          cases ha
          rw [decide_eq_true c3]; rfl
        · rw [if_neg (fun h => c3 h.2.2)]
          refine ⟨fun a ha => (by cases ha), fun h => ⟨_, _, _, _, by rw [decide_eq_false c3]⟩⟩
      · rw [(show decide (w2 = (⟨#[111, 110, 101]⟩ : ByteArray)) = false from decide_eq_false c1), Bool.not_false, cnd_true]
        by_cases c2 : w2 = wMany
        · rw [(show decide (w2 = (⟨#[109, 97, 110, 121]⟩ : ByteArray)) = true from decide_eq_true c2), Bool.not_true, cnd_false]
          by_cases c3 : 0 ≤ sIx w3 wSpreads
          · rw [if_pos ⟨c0, .inr c2, c3⟩]
            refine ⟨fun a ha => ?_, fun h => (by cases h)⟩
            cases ha
            rw [decide_eq_true c3]; simp only [c2, decide_true]; rfl
          · rw [if_neg (fun h => c3 h.2.2)]
            refine ⟨fun a ha => (by cases ha), fun h => ⟨_, _, _, _, by rw [decide_eq_false c3]⟩⟩
        · rw [(show decide (w2 = (⟨#[109, 97, 110, 121]⟩ : ByteArray)) = false from decide_eq_false c2), Bool.not_false, cnd_true, if_neg (fun h => h.2.1.elim c1 c2)]
          exact ⟨fun a ha => (by cases ha), fun h => ⟨_, _, _, _, rfl⟩⟩
    · rw [(show decide (w0 = (⟨#[97, 115, 107]⟩ : ByteArray)) = false from decide_eq_false c0), Bool.not_false, cnd_true, if_neg (fun h => c0 h.1)]
      exact ⟨fun a ha => (by cases ha), fun h => ⟨_, _, _, _, rfl⟩⟩
theorem ruleLine_ok (fu n : Nat) (w : List ByteArray) (hl : w.length ≤ 400000) :
    (∀ r, ruleW w = some r → ev fu (n + 2) 57 [.list (strs w)] [] = some ([.agg (ruleC r), .bool true], [])) ∧
    (ruleW w = none → ∃ k a b c d, ev fu (n + 2) 57 [.list (strs w)] [] = some ([.agg [.int .i64 k, .str a, .str b, .str c, .str d], .bool false], [])) := by
  have hb : ∀ b : Bool, b = true ∨ b = false := fun b => by cases b <;> simp
  rw [review_ruleLine_eq, strs_len, In_ok, rB_some]
  by_cases h56 : w.length = 5 ∨ w.length = 6
  · have hin : inB (w.length : Nat) 5 6 = true := by unfold inB; exact decide_eq_true (by omega)
    rw [hin, Bool.not_true, cnd_false]
    have hnb : ∀ x : ByteArray, x = wNeeds → ¬ x = wBars := fun x h => by subst h; decide
    have d0 : ∀ x : ByteArray, decide (x = (⟨#[114, 117, 108, 101]⟩ : ByteArray)) = decide (x = wRule) := fun _ => rfl
    have d1 : ∀ x : ByteArray, decide (x = (⟨#[110, 101, 101, 100, 115]⟩ : ByteArray)) = decide (x = wNeeds) := fun _ => rfl
    have d2 : ∀ x : ByteArray, decide (x = (⟨#[98, 97, 114, 115]⟩ : ByteArray)) = decide (x = wBars) := fun _ => rfl
    rcases h56 with h5 | h6
    · obtain ⟨w0, w1, w2, w3, w4, rfl⟩ : ∃ w0 w1 w2 w3 w4, w = [w0, w1, w2, w3, w4] := by
        match w, h5 with
        | [a, b, c, d, e], _ => exact ⟨a, b, c, d, e, rfl⟩
      have r0 : ∀ K : ByteArray → Out, rd (strs [w0, w1, w2, w3, w4]) (0 : Int) (fun e => gd (e.length = 1) (cel e 0 fun m => dS m K)) = K w0 := fun K => rdW (i := 0) rfl K
      have r1 : ∀ K : ByteArray → Out, rd (strs [w0, w1, w2, w3, w4]) (1 : Int) (fun e => gd (e.length = 1) (cel e 0 fun m => dS m K)) = K w1 := fun K => rdW (i := 1) rfl K
      have r2 : ∀ K : ByteArray → Out, rd (strs [w0, w1, w2, w3, w4]) (2 : Int) (fun e => gd (e.length = 1) (cel e 0 fun m => dS m K)) = K w2 := fun K => rdW (i := 2) rfl K
      have r3 : ∀ K : ByteArray → Out, rd (strs [w0, w1, w2, w3, w4]) (3 : Int) (fun e => gd (e.length = 1) (cel e 0 fun m => dS m K)) = K w3 := fun K => rdW (i := 3) rfl K
      have r4 : ∀ K : ByteArray → Out, rd (strs [w0, w1, w2, w3, w4]) (4 : Int) (fun e => gd (e.length = 1) (cel e 0 fun m => dS m K)) = K w4 := fun K => rdW (i := 4) rfl K
      have e6 : decide ((([w0, w1, w2, w3, w4] : List ByteArray).length : Int) = 6) = false := rfl
      have er : ruleW [w0, w1, w2, w3, w4] = if w0 = wRule ∧ (w1 = wNeeds ∨ w1 = wBars) then some ⟨if w1 = wBars then 2 else 1, w2, w3, w4, ⟨#[]⟩⟩ else none := rfl
      simp only [r0, r1, r2, r3, r4, e6, cnd_false, eqM_self', d0, d1, d2, er]
      by_cases c0 : w0 = wRule
      · by_cases c1 : w1 = wNeeds
        · have c2 := hnb w1 c1
          simp only [c0, decide_true, Bool.not_true, cnd_false, decide_eq_true c1, decide_eq_false c2, eqO_self]
          rw [if_pos ⟨trivial, .inl c1⟩, if_neg c2]
          exact ⟨fun r hr => by cases hr; rfl, fun h => by cases h⟩
        · by_cases c2 : w1 = wBars
          · simp only [c0, decide_true, Bool.not_true, cnd_false, decide_eq_false c1, Bool.not_false, cnd_true, decide_eq_true c2, eqO_self]
            rw [if_pos ⟨trivial, .inr c2⟩, if_pos c2]
            exact ⟨fun r hr => by cases hr; rfl, fun h => by cases h⟩
          · simp only [c0, decide_true, Bool.not_true, cnd_false, decide_eq_false c1, Bool.not_false, cnd_true, decide_eq_false c2]
            rw [if_neg (fun h => h.2.elim c1 c2)]
            exact ⟨fun r hr => (by cases hr), fun _ => ⟨_, _, _, _, _, rfl⟩⟩
      · simp only [decide_eq_false c0, Bool.not_false, cnd_true]
        rw [if_neg (fun h => c0 h.1)]
        exact ⟨fun r hr => (by cases hr), fun _ => ⟨_, _, _, _, _, rfl⟩⟩
    · obtain ⟨w0, w1, w2, w3, w4, w5, rfl⟩ : ∃ w0 w1 w2 w3 w4 w5, w = [w0, w1, w2, w3, w4, w5] := by
        match w, h6 with
        | [a, b, c, d, e, f], _ => exact ⟨a, b, c, d, e, f, rfl⟩
      have r0 : ∀ K : ByteArray → Out, rd (strs [w0, w1, w2, w3, w4, w5]) (0 : Int) (fun e => gd (e.length = 1) (cel e 0 fun m => dS m K)) = K w0 := fun K => rdW (i := 0) rfl K
      have r1 : ∀ K : ByteArray → Out, rd (strs [w0, w1, w2, w3, w4, w5]) (1 : Int) (fun e => gd (e.length = 1) (cel e 0 fun m => dS m K)) = K w1 := fun K => rdW (i := 1) rfl K
      have r2 : ∀ K : ByteArray → Out, rd (strs [w0, w1, w2, w3, w4, w5]) (2 : Int) (fun e => gd (e.length = 1) (cel e 0 fun m => dS m K)) = K w2 := fun K => rdW (i := 2) rfl K
      have r3 : ∀ K : ByteArray → Out, rd (strs [w0, w1, w2, w3, w4, w5]) (3 : Int) (fun e => gd (e.length = 1) (cel e 0 fun m => dS m K)) = K w3 := fun K => rdW (i := 3) rfl K
      have r4 : ∀ K : ByteArray → Out, rd (strs [w0, w1, w2, w3, w4, w5]) (4 : Int) (fun e => gd (e.length = 1) (cel e 0 fun m => dS m K)) = K w4 := fun K => rdW (i := 4) rfl K
      have r5 : ∀ K : ByteArray → Out, rd (strs [w0, w1, w2, w3, w4, w5]) (5 : Int) (fun e => gd (e.length = 1) (cel e 0 fun m => dS m K)) = K w5 := fun K => rdW (i := 5) rfl K
      have e6 : decide ((([w0, w1, w2, w3, w4, w5] : List ByteArray).length : Int) = 6) = true := rfl
      have er : ruleW [w0, w1, w2, w3, w4, w5] = if w0 = wRule ∧ (w1 = wNeeds ∨ w1 = wBars) then some ⟨if w1 = wBars then 2 else 1, w2, w3, w4, w5⟩ else none := rfl
      simp only [r0, r1, r2, r3, r4, r5, e6, cnd_true, eqM_self', d0, d1, d2, er]
      by_cases c0 : w0 = wRule
      · by_cases c1 : w1 = wNeeds
        · have c2 := hnb w1 c1
          simp only [c0, decide_true, Bool.not_true, cnd_false, decide_eq_true c1, decide_eq_false c2, eqO_self]
          rw [if_pos ⟨trivial, .inl c1⟩, if_neg c2]
          exact ⟨fun r hr => by cases hr; rfl, fun h => by cases h⟩
        · by_cases c2 : w1 = wBars
          · simp only [c0, decide_true, Bool.not_true, cnd_false, decide_eq_false c1, Bool.not_false, cnd_true, decide_eq_true c2, eqO_self]
            rw [if_pos ⟨trivial, .inr c2⟩, if_pos c2]
            exact ⟨fun r hr => by cases hr; rfl, fun h => by cases h⟩
          · simp only [c0, decide_true, Bool.not_true, cnd_false, decide_eq_false c1, Bool.not_false, cnd_true, decide_eq_false c2]
            rw [if_neg (fun h => h.2.elim c1 c2)]
            exact ⟨fun r hr => (by cases hr), fun _ => ⟨_, _, _, _, _, rfl⟩⟩
      · simp only [decide_eq_false c0, Bool.not_false, cnd_true]
        rw [if_neg (fun h => c0 h.1)]
        exact ⟨fun r hr => (by cases hr), fun _ => ⟨_, _, _, _, _, rfl⟩⟩
  · have hin : inB (w.length : Nat) 5 6 = false := by unfold inB; exact decide_eq_false (by omega)
    rw [hin, Bool.not_false, cnd_true]
    have hn : ruleW w = none := by
      unfold ruleW
      split
      · simp at h56
      · simp at h56
      · rfl
    exact ⟨fun a ha => (by rw [hn] at ha; cases ha), fun _ => ⟨_, _, _, _, _, rfl⟩⟩
end Go.Pv
/- Reading layouts: the closures of both sides. -/
namespace Go.Pv
open Go Go.Proofs

def stB (A : List Ask) (R : List Rule) : Bxs := [some (.box [.ref 1, .ref 2]), some (.row false 4 (A.map askC) []), some (.row false 5 (R.map ruleC) [])]
def stE (x y : List (List MV)) : Bxs := [some (.box [.ref 3, .ref 4]), none, none, some (.row false 4 x []), some (.row false 5 y [])]
theorem take1_ok (fu n : Nat) (A : List Ask) (R : List Rule) (w : List ByteArray) (hl : w.length ≤ 400000) (hA : A.length ≤ 400000) (hR : R.length ≤ 400000) (hfu : 1000000 ≤ fu) :
    (∀ st, stepW (A, R) w = some st → ev fu (n + 4) 55 [.list (strs w), .ptr 0 0] (stB A R) = some ([.bool true], stE (st.1.map askC) (st.2.map ruleC))) ∧
    (stepW (A, R) w = none → ∃ x y, ev fu (n + 4) 55 [.list (strs w), .ptr 0 0] (stB A R) = some ([.bool false], stE x y)) := by
  obtain ⟨ha1, ha2⟩ := askLine_ok fu n w hl hfu
  obtain ⟨hr1, hr2⟩ := ruleLine_ok fu (n + 1) w hl
  -- the rest, where no field is taken
  have rest : ∀ (f : ByteArray) (cs : List (List MV)) (b : Bool) (q : Int), (∀ st, (match ruleW w with | some r => some (A, R ++ [r]) | none => none) = some st → review_ReadLayout_1_J1 fu (n + 3) (strs w) false (A.map askC) (R.map ruleC) f cs b q = some ([.bool true], stE (st.1.map askC) (st.2.map ruleC))) ∧
      ((match ruleW w with | some r => some (A, R ++ [r]) | none => none) = none → ∃ x y, review_ReadLayout_1_J1 fu (n + 3) (strs w) false (A.map askC) (R.map ruleC) f cs b q = some ([.bool false], stE x y)) := by
    intro f cs b q
    rw [review_ReadLayout_1_J1_eq, cnd_false]
    cases hr : ruleW w with
    | none =>
      obtain ⟨k, a', b', c', d', h⟩ := hr2 hr
      rw [h]
      refine ⟨fun st h => (by cases h), fun _ => ⟨A.map askC, R.map ruleC, ?_⟩⟩
      simp only [callE_some', unXN_nil, unC_cons, dA_agg, dI_int, dS_str, dB_bool, unN_nil, cnd_false]; rfl
    | some r =>
      rw [hr1 r hr]
      refine ⟨fun st h => ?_, fun h => (by cases h)⟩
      cases h
      unfold ruleC
      simp only [callE_some', unXN_nil, unC_cons, dA_agg, dI_int, dS_str, dB_bool, unN_nil, cnd_true]
      rw [gL_pos (by simp; omega)]
      show _ = some (_, stE _ ((R ++ [r]).map ruleC))
      rw [List.map_append]; rfl
  have go : ∀ (b : Bool) (f : ByteArray) (cs : List (List MV)) (m : Bool) (q : Int), ev fu (n + 3) 56 [.list (strs w)] [] = some ([.agg [.str f, .list cs, .bool m, .int .i64 q], .bool b], []) →
      ev fu (n + 4) 55 [.list (strs w), .ptr 0 0] (stB A R) = review_ReadLayout_1_J1 fu (n + 3) (strs w) (if b then decide (R.length = 0) else false) (A.map askC) (R.map ruleC) f cs m q := by
    intro b f cs m q h
    unfold stB
    rw [review_ReadLayout_1_eq, h]
    simp only [callE_some', unXN_nil, unC_cons, dA_agg, dS_str, dL_list, dB_bool, dI_int, unN_nil, List.length_map]
    cases b
    · rw [cnd_false]; rfl
    · rw [cnd_true]
      have : decide (((R.length : Nat) : Int) = (0 : Int)) = decide (R.length = 0) := decide_eq_decide.2 (by omega)
      rw [this]; rfl
  cases ha : askW w with
  | none =>
    obtain ⟨f, cs, b, q, h⟩ := ha2 ha
    have hs : stepW (A, R) w = (match ruleW w with | some r => some (A, R ++ [r]) | none => none) := by unfold stepW; rw [ha]; try (cases ruleW w <;> rfl)
    rw [hs, go false f cs b q h]
    exact rest f cs b q
  | some a =>
    have h := ha1 a ha
    rw [go true _ _ _ _ h]
    cases R with
    | nil =>
      have hs : stepW (A, []) w = some (A ++ [a], []) := by unfold stepW; rw [ha]
      rw [hs]
      refine ⟨fun st h => ?_, fun h => (by cases h)⟩
      cases h
      rw [review_ReadLayout_1_J1_eq]
      simp only [List.length_nil, decide_true, if_true, cnd_true]
      rw [gL_pos (by simp; omega)]
      show _ = some (_, stE ((A ++ [a]).map askC) _)
      rw [List.map_append]; rfl
    | cons r0 R' =>
      have hs : stepW (A, r0 :: R') w = (match ruleW w with | some r => some (A, (r0 :: R') ++ [r]) | none => none) := by unfold stepW; rw [ha]; try (cases ruleW w <;> rfl)
      rw [hs]
      have e : (if true = true then decide ((r0 :: R').length = 0) else false) = false := by simp
      rw [e]
      exact rest _ _ _ _
end Go.Pv
/- Reading layouts: the closure of the reference. -/
namespace Go.Pv
open Go Go.Proofs

theorem sp_len (c : UInt8) : ∀ l : List UInt8, (sp c l).length ≤ l.length + 1
  | [] => by simp [sp]
  | b :: l => by
    have ih := sp_len c l
    rw [sp]
    split
    · simp; omega
    · split
      · rename_i h; rw [h] at ih; simp at ih ⊢; omega
      · simp
theorem pieces_len (c : UInt8) (s : ByteArray) : (pieces c s).length ≤ s.size + 1 := by
  rw [pieces_sp, List.length_map]
  exact sp_len c s.data.toList
theorem spreadW_ok (fu n : Nat) : ev fu (n + 1) 51 [] [] = some ([.ref 0], [some (.row false 1 (strs wSpreads) [])]) := by
  rw [chaseref2_spreadWords_eq]; rfl
theorem sIx2 {s a b : ByteArray} : sIx s [a, b] = if s = a then 0 else if s = b then 1 else -1 := by
  unfold sIx
  simp only [fIx]
  by_cases h : s = a
  · simp [h]
  · by_cases h2 : s = b
    · simp [h, h2]
    · simp [h, h2]
theorem eqO_st (r : Res) (cs : List MV) (d e : Bool) (a b : Nat) (x y : List (List MV)) : eqO (some (r, [some (.box cs), none, none, some (.row d a x []), some (.row e b y [])])) (some (r, [some (.box cs), none, none, some (.row d a x []), some (.row e b y [])])) = some (r, [some (.box cs), none, none, some (.row d a x []), some (.row e b y [])]) := by
  simp [eqO, mvBL_self, mvBLL_self, bxB, obB]
theorem refJ2 (fu n : Nat) (A : List Ask) (R : List Rule) (w : List ByteArray) (h56 : w.length = 5 ∨ w.length = 6) (h0 : w[0]? = some wRule) (hR : R.length ≤ 400000) (hfu : 1000000 ≤ fu) :
    (∀ r, ruleW w = some r → chaseref2_LayoutRead_1_J2 fu (n + 3) (strs w) true (A.map askC) (R.map ruleC) = some ([.bool true], stE (A.map askC) ((R ++ [r]).map ruleC))) ∧
    (ruleW w = none → ∃ y z, chaseref2_LayoutRead_1_J2 fu (n + 3) (strs w) true (A.map askC) (R.map ruleC) = some ([.bool false], stE y z)) := by
  have hnb : ∀ x : ByteArray, x = wNeeds → ¬ x = wBars := fun x h => by subst h; decide
  have hx := fun x => IndexS_ok fu (n + 2) [wNeeds, wBars] x (by decide) hfu
  have hx' : ∀ x, ev fu (n + 3) 61 [.list ([[.str (⟨#[110, 101, 101, 100, 115]⟩ : ByteArray)], [.str (⟨#[98, 97, 114, 115]⟩ : ByteArray)]] : List (List MV)), .str x] [] = some ([.int .i64 (if x = wNeeds then 0 else if x = wBars then 1 else -1)], []) := fun x => by
    rw [← sIx2]; exact hx x
  have k0 : IntKind.i64.wrap ((1 : Int) + 0) = 1 := by decide
  have k1 : IntKind.i64.wrap ((1 : Int) + 1) = 2 := by decide
  have k2 : IntKind.i64.wrap ((1 : Int) + (-1)) = 0 := by decide
  have em : ∀ (x : List (List MV)) (r : Rule) (k : Int) (a b c d : ByteArray), r = ⟨k, a, b, c, d⟩ → x ++ [[.int .i64 k, .str a, .str b, .str c, .str d]] = x ++ [ruleC r] := fun x r k a b c d h => by rw [h]; rfl
  have ebe : ByteArray.empty = (⟨#[]⟩ : ByteArray) := by kernel_rfl
  rw [chaseref2_LayoutRead_1_J2_eq, cnd_true, strs_len, ebe]
  rcases h56 with h5 | h6
  · obtain ⟨w0, w1, w2, w3, w4, rfl⟩ : ∃ w0 w1 w2 w3 w4, w = [w0, w1, w2, w3, w4] := by
      match w, h5 with
      | [a, b, c, d, e], _ => exact ⟨a, b, c, d, e, rfl⟩
    have r1 : ∀ K : ByteArray → Out, rd (strs [w0, w1, w2, w3, w4]) (1 : Int) (fun e => gd (e.length = 1) (cel e 0 fun m => dS m K)) = K w1 := fun K => rdW (i := 1) rfl K
    have r2 : ∀ K : ByteArray → Out, rd (strs [w0, w1, w2, w3, w4]) (2 : Int) (fun e => gd (e.length = 1) (cel e 0 fun m => dS m K)) = K w2 := fun K => rdW (i := 2) rfl K
    have r3 : ∀ K : ByteArray → Out, rd (strs [w0, w1, w2, w3, w4]) (3 : Int) (fun e => gd (e.length = 1) (cel e 0 fun m => dS m K)) = K w3 := fun K => rdW (i := 3) rfl K
    have r4 : ∀ K : ByteArray → Out, rd (strs [w0, w1, w2, w3, w4]) (4 : Int) (fun e => gd (e.length = 1) (cel e 0 fun m => dS m K)) = K w4 := fun K => rdW (i := 4) rfl K
    have e6 : decide ((([w0, w1, w2, w3, w4] : List ByteArray).length : Int) = 6) = false := rfl
    have er : ruleW [w0, w1, w2, w3, w4] = if w0 = wRule ∧ (w1 = wNeeds ∨ w1 = wBars) then some ⟨if w1 = wBars then 2 else 1, w2, w3, w4, ⟨#[]⟩⟩ else none := rfl
    have c0 : w0 = wRule := by simpa using h0
    simp only [r1, hx', rI_some]
    simp only [r2, r3, r4, e6, cnd_false, eqO_self, er]
    rw [gL_pos (by simp; omega), eqO_st]
    by_cases c1 : w1 = wNeeds
    · have c2 := hnb w1 c1
      rw [if_pos c1, if_neg c2, if_pos ⟨c0, .inl c1⟩, k0]
      refine ⟨fun r hr => ?_, fun h => (by cases h)⟩
      cases hr
      rw [List.map_append]; rfl
    · by_cases c2 : w1 = wBars
      · rw [if_neg c1, if_pos c2, if_pos c2, if_pos ⟨c0, .inr c2⟩, k1]
        refine ⟨fun r hr => ?_, fun h => (by cases h)⟩
        cases hr
        rw [List.map_append]; rfl
      · rw [if_neg (show ¬ (w0 = wRule ∧ (w1 = wNeeds ∨ w1 = wBars)) from fun h => h.2.elim c1 c2), if_neg c1, if_neg c2, k2]
        exact ⟨fun r hr => (by cases hr), fun _ => ⟨_, _, rfl⟩⟩
  · obtain ⟨w0, w1, w2, w3, w4, w5, rfl⟩ : ∃ w0 w1 w2 w3 w4 w5, w = [w0, w1, w2, w3, w4, w5] := by
      match w, h6 with
      | [a, b, c, d, e, f], _ => exact ⟨a, b, c, d, e, f, rfl⟩
    have r1 : ∀ K : ByteArray → Out, rd (strs [w0, w1, w2, w3, w4, w5]) (1 : Int) (fun e => gd (e.length = 1) (cel e 0 fun m => dS m K)) = K w1 := fun K => rdW (i := 1) rfl K
    have r2 : ∀ K : ByteArray → Out, rd (strs [w0, w1, w2, w3, w4, w5]) (2 : Int) (fun e => gd (e.length = 1) (cel e 0 fun m => dS m K)) = K w2 := fun K => rdW (i := 2) rfl K
    have r3 : ∀ K : ByteArray → Out, rd (strs [w0, w1, w2, w3, w4, w5]) (3 : Int) (fun e => gd (e.length = 1) (cel e 0 fun m => dS m K)) = K w3 := fun K => rdW (i := 3) rfl K
    have r4 : ∀ K : ByteArray → Out, rd (strs [w0, w1, w2, w3, w4, w5]) (4 : Int) (fun e => gd (e.length = 1) (cel e 0 fun m => dS m K)) = K w4 := fun K => rdW (i := 4) rfl K
    have r5 : ∀ K : ByteArray → Out, rd (strs [w0, w1, w2, w3, w4, w5]) (5 : Int) (fun e => gd (e.length = 1) (cel e 0 fun m => dS m K)) = K w5 := fun K => rdW (i := 5) rfl K
    have e6 : decide ((([w0, w1, w2, w3, w4, w5] : List ByteArray).length : Int) = 6) = true := rfl
    have er : ruleW [w0, w1, w2, w3, w4, w5] = if w0 = wRule ∧ (w1 = wNeeds ∨ w1 = wBars) then some ⟨if w1 = wBars then 2 else 1, w2, w3, w4, w5⟩ else none := rfl
    have c0 : w0 = wRule := by simpa using h0
    simp only [r1, hx', rI_some]
    simp only [r2, r3, r4, r5, e6, cnd_true, eqO_self, er]
    rw [gL_pos (by simp; omega), eqO_st]
    by_cases c1 : w1 = wNeeds
    · have c2 := hnb w1 c1
      rw [if_pos c1, if_neg c2, if_pos ⟨c0, .inl c1⟩, k0]
      refine ⟨fun r hr => ?_, fun h => (by cases h)⟩
      cases hr
      rw [List.map_append]; rfl
    · by_cases c2 : w1 = wBars
      · rw [if_neg c1, if_pos c2, if_pos c2, if_pos ⟨c0, .inr c2⟩, k1]
        refine ⟨fun r hr => ?_, fun h => (by cases h)⟩
        cases hr
        rw [List.map_append]; rfl
      · rw [if_neg (show ¬ (w0 = wRule ∧ (w1 = wNeeds ∨ w1 = wBars)) from fun h => h.2.elim c1 c2), if_neg c1, if_neg c2, k2]
        exact ⟨fun r hr => (by cases hr), fun _ => ⟨_, _, rfl⟩⟩
theorem refJ1f (fu n : Nat) (A : List Ask) (R : List Rule) (w0 : ByteArray) (ws : List ByteArray) (hl : (w0 :: ws).length ≤ 400000) (hR : R.length ≤ 400000) (hfu : 1000000 ≤ fu) :
    (∀ r, ruleW (w0 :: ws) = some r → chaseref2_LayoutRead_1_J1 fu (n + 3) (strs (w0 :: ws)) false (A.map askC) (R.map ruleC) = some ([.bool true], stE (A.map askC) ((R ++ [r]).map ruleC))) ∧
    (ruleW (w0 :: ws) = none → ∃ y z, chaseref2_LayoutRead_1_J1 fu (n + 3) (strs (w0 :: ws)) false (A.map askC) (R.map ruleC) = some ([.bool false], stE y z)) := by
  have r0 : ∀ K : ByteArray → Out, rd (strs (w0 :: ws)) (0 : Int) (fun e => gd (e.length = 1) (cel e 0 fun m => dS m K)) = K w0 := fun K => rdW (i := 0) rfl K
  rw [chaseref2_LayoutRead_1_J1_eq, cnd_false, r0, cnd_decide, strs_len]
  by_cases c0' : w0 = (⟨#[114, 117, 108, 101]⟩ : ByteArray)
  · have c0 : w0 = wRule := c0'
    rw [if_pos c0', in_ok, rB_some]
    by_cases h56 : (w0 :: ws).length = 5 ∨ (w0 :: ws).length = 6
    · have hin : inB ((w0 :: ws).length : Nat) 5 6 = true := by unfold inB; exact decide_eq_true (by omega)
      rw [hin]
      exact refJ2 fu n A R (w0 :: ws) h56 (by rw [c0]; rfl) hR hfu
    · have hin : inB ((w0 :: ws).length : Nat) 5 6 = false := by unfold inB; exact decide_eq_false (by omega)
      have hn : ruleW (w0 :: ws) = none := by
        unfold ruleW
        split
        · rename_i h; rw [h] at h56; simp at h56
        · rename_i h; rw [h] at h56; simp at h56
        · rfl
      rw [hin, hn, chaseref2_LayoutRead_1_J2_eq, cnd_false]
      exact ⟨fun r hr => (by cases hr), fun _ => ⟨_, _, rfl⟩⟩
  · have c0 : ¬ w0 = wRule := c0'
    have hn : ruleW (w0 :: ws) = none := by
      unfold ruleW
      split
      · rename_i h; cases h; rw [if_neg (fun h => c0 h.1)]
      · rename_i h; cases h; rw [if_neg (fun h => c0 h.1)]
      · rfl
    rw [if_neg c0', hn, chaseref2_LayoutRead_1_J2_eq, cnd_false]
    exact ⟨fun r hr => (by cases hr), fun _ => ⟨_, _, rfl⟩⟩
theorem refJ1t (fu n : Nat) (A : List Ask) (w0 w1 w2 w3 : ByteArray) (t : List ByteArray) (hl : (w0 :: w1 :: w2 :: w3 :: t).length ≤ 400000) (hA : A.length ≤ 400000) (hfu : 1000000 ≤ fu) (c0 : w0 = wAsk) :
    (∀ a, askW (w0 :: w1 :: w2 :: w3 :: t) = some a → chaseref2_LayoutRead_1_J1 fu (n + 3) (strs (w0 :: w1 :: w2 :: w3 :: t)) true (A.map askC) [] = some ([.bool true], stE ((A ++ [a]).map askC) [])) ∧
    (askW (w0 :: w1 :: w2 :: w3 :: t) = none → ∃ y z, chaseref2_LayoutRead_1_J1 fu (n + 3) (strs (w0 :: w1 :: w2 :: w3 :: t)) true (A.map askC) [] = some ([.bool false], stE y z)) := by
  have hx := fun x => IndexS_ok fu (n + 2) [wOne, wMany] x (by decide) hfu
  have hx' : ∀ x, ev fu (n + 3) 61 [.list ([[.str (⟨#[111, 110, 101]⟩ : ByteArray)], [.str (⟨#[109, 97, 110, 121]⟩ : ByteArray)]] : List (List MV)), .str x] [] = some ([.int .i64 (if x = wOne then 0 else if x = wMany then 1 else -1)], []) := fun x => by
    rw [← sIx2]; exact hx x
  have r1 : ∀ K : ByteArray → Out, rd (strs (w0 :: w1 :: w2 :: w3 :: t)) (1 : Int) (fun e => gd (e.length = 1) (cel e 0 fun m => dS m K)) = K w1 := fun K => rdW (i := 1) rfl K
  have r2 : ∀ K : ByteArray → Out, rd (strs (w0 :: w1 :: w2 :: w3 :: t)) (2 : Int) (fun e => gd (e.length = 1) (cel e 0 fun m => dS m K)) = K w2 := fun K => rdW (i := 2) rfl K
  have r3 : ∀ K : ByteArray → Out, rd (strs (w0 :: w1 :: w2 :: w3 :: t)) (3 : Int) (fun e => gd (e.length = 1) (cel e 0 fun m => dS m K)) = K w3 := fun K => rdW (i := 3) rfl K
  have sl : ∀ K : List (List MV) → Out, slL 1 (strs (w0 :: w1 :: w2 :: w3 :: t)) (4 : Int) (((w0 :: w1 :: w2 :: w3 :: t).length : Nat) : Int) K = K (strs t) := fun K => slW (by simp) K
  rw [chaseref2_LayoutRead_1_J1_eq, cnd_true, strs_len]
  simp only [r2, r3, hx', rI_some]
  simp only [spreadW_ok fu (n + 2), rO_some]
  rw [IndexS_ok fu (n + 2) wSpreads w3 (by decide) hfu]
  simp only [rI_some, r1]
  simp only [sl, eqM_self']
  rw [gL_pos (by simp; omega)]
  have ea : askW (w0 :: w1 :: w2 :: w3 :: t) = if w0 = wAsk ∧ (w2 = wOne ∨ w2 = wMany) ∧ 0 ≤ sIx w3 wSpreads then some ⟨w1, t, decide (w2 = wMany), sIx w3 wSpreads⟩ else none := rfl
  rw [ea]
  by_cases c1 : w2 = wOne
  · have hne : ¬ w2 = wMany := by subst c1; decide
    rw [if_pos c1, cnd_decide, if_pos (show (0 : Int) ≤ 0 by decide)]
    by_cases c3 : 0 ≤ sIx w3 wSpreads
    · rw [if_pos ⟨c0, .inl c1, c3⟩]
      refine ⟨fun a ha => ?_, fun h => (by cases h)⟩
      cases ha
      rw [decide_eq_true c3, decide_eq_false hne, List.map_append]; rfl
    · rw [if_neg (fun h => c3 h.2.2)]
      exact ⟨fun a ha => (by cases ha), fun h => ⟨_, _, by rw [decide_eq_false c3]; rfl⟩⟩
  · rw [if_neg c1]
    by_cases c2 : w2 = wMany
    · rw [if_pos c2, cnd_decide, if_pos (show (0 : Int) ≤ 1 by decide)]
      by_cases c3 : 0 ≤ sIx w3 wSpreads
      · rw [if_pos ⟨c0, .inr c2, c3⟩]
        refine ⟨fun a ha => ?_, fun h => (by cases h)⟩
        cases ha
        rw [decide_eq_true c3, decide_eq_true c2, List.map_append]; rfl
      · rw [if_neg (fun h => c3 h.2.2)]
        exact ⟨fun a ha => (by cases ha), fun h => ⟨_, _, by rw [decide_eq_false c3]; rfl⟩⟩
    · rw [if_neg c2, cnd_decide, if_neg (show ¬ (0 : Int) ≤ -1 by decide), if_neg (fun h => h.2.1.elim c1 c2)]
      exact ⟨fun a ha => (by cases ha), fun h => ⟨_, _, rfl⟩⟩
theorem take2_ok (fu n : Nat) (A : List Ask) (R : List Rule) (x : ByteArray) (hx : x.size ≤ 399999) (hA : A.length ≤ 400000) (hR : R.length ≤ 400000) (hfu : 1000000 ≤ fu) :
    (∀ st, stepL (A, R) x = some st → ev fu (n + 4) 59 [.str x, .ptr 0 0] (stB A R) = some ([.bool true], stE (st.1.map askC) (st.2.map ruleC))) ∧
    (stepL (A, R) x = none → ∃ y z, ev fu (n + 4) 59 [.str x, .ptr 0 0] (stB A R) = some ([.bool false], stE y z)) := by
  have hl : (pieces 32 x).length ≤ 400000 := Nat.le_trans (pieces_len 32 x) (by omega)
  have hne := pieces_ne 32 x
  unfold stepL stB
  rw [chaseref2_LayoutRead_1_eq, Split_ev fu (n + 2) x 32 (by omega), rL_some, ContainsS_ok fu (n + 1) _ _ hl hfu, rB_some]
  generalize pieces 32 x = w at *
  have hany : (w.any fun y => decide ((⟨#[]⟩ : ByteArray) = y)) = w.any fun y => decide (y = ⟨#[]⟩) := by
    congr 1; funext y; exact decide_eq_decide.2 ⟨Eq.symm, Eq.symm⟩
  rw [hany]
  cases ha : w.any fun y => decide (y = (⟨#[]⟩ : ByteArray)) with
  | true =>
    rw [cnd_true, if_pos rfl]
    exact ⟨fun st h => (by cases h), fun _ => ⟨_, _, rfl⟩⟩
  | false =>
    rw [cnd_false, if_neg (by decide)]
    obtain ⟨w0, ws, rfl⟩ : ∃ w0 ws, w = w0 :: ws := by cases w with
      | nil => exact absurd rfl hne
      | cons a b => exact ⟨a, b, rfl⟩
    have r0 : ∀ K : ByteArray → Out, rd (strs (w0 :: ws)) (0 : Int) (fun e => gd (e.length = 1) (cel e 0 fun m => dS m K)) = K w0 := fun K => rdW (i := 0) rfl K
    have hrule := refJ1f fu n A R w0 ws hl hR hfu
    -- where no field can be taken
    have rest : (∀ st, (match ruleW (w0 :: ws) with | some r => some (A, R ++ [r]) | none => none) = some st → chaseref2_LayoutRead_1_J1 fu (n + 3) (strs (w0 :: ws)) false (A.map askC) (R.map ruleC) = some ([.bool true], stE (st.1.map askC) (st.2.map ruleC))) ∧
        ((match ruleW (w0 :: ws) with | some r => some (A, R ++ [r]) | none => none) = none → ∃ y z, chaseref2_LayoutRead_1_J1 fu (n + 3) (strs (w0 :: ws)) false (A.map askC) (R.map ruleC) = some ([.bool false], stE y z)) := by
      cases hr : ruleW (w0 :: ws) with
      | none => exact ⟨fun st h => (by cases h), fun _ => hrule.2 hr⟩
      | some r => exact ⟨fun st h => (by cases h; exact hrule.1 r hr), fun h => (by cases h)⟩
    have nn : askW (w0 :: ws) = none → stepW (A, R) (w0 :: ws) = (match ruleW (w0 :: ws) with | some r => some (A, R ++ [r]) | none => none) := fun h => by
      unfold stepW; rw [h]; try (cases ruleW (w0 :: ws) <;> rfl)
    rw [r0, cnd_decide, strs_len, List.length_map]
    by_cases c0' : w0 = (⟨#[97, 115, 107]⟩ : ByteArray)
    · have c0 : w0 = wAsk := c0'
      rw [if_pos c0', cnd_decide]
      by_cases h4 : (4 : Int) ≤ (((w0 :: ws).length : Nat) : Int)
      · rw [if_pos h4]
        obtain ⟨w1, w2, w3, t, rfl⟩ : ∃ w1 w2 w3 t, ws = w1 :: w2 :: w3 :: t := by
          rcases ws with _ | ⟨w1, _ | ⟨w2, _ | ⟨w3, t⟩⟩⟩
          · simp at h4
          · simp at h4
          · simp at h4
          · exact ⟨w1, w2, w3, t, rfl⟩
        cases R with
        | nil =>
          have hask := refJ1t fu n A w0 w1 w2 w3 t hl hA hfu c0
          have hd : decide (((([] : List Rule).length : Nat) : Int) = 0) = true := rfl
          rw [hd]
          cases ea : askW (w0 :: w1 :: w2 :: w3 :: t) with
          | none =>
            have hr : ruleW (w0 :: w1 :: w2 :: w3 :: t) = none := by
              unfold ruleW
              split
              · rename_i h; cases h; rw [if_neg (fun h => absurd (c0.symm.trans h.1) (by decide))]
              · rename_i h; cases h; rw [if_neg (fun h => absurd (c0.symm.trans h.1) (by decide))]
              · rfl
            rw [nn ea, hr]
            exact ⟨fun st h => (by cases h), fun _ => hask.2 ea⟩
          | some a =>
            have hs : stepW (A, []) (w0 :: w1 :: w2 :: w3 :: t) = some (A ++ [a], []) := by unfold stepW; rw [ea]
            rw [hs]
            exact ⟨fun st h => (by cases h; exact hask.1 a ea), fun h => (by cases h)⟩
        | cons q Q =>
          have hd : decide ((((q :: Q).length : Nat) : Int) = 0) = false := decide_eq_false (by simp; omega)
          have hs : stepW (A, q :: Q) (w0 :: w1 :: w2 :: w3 :: t) = (match ruleW (w0 :: w1 :: w2 :: w3 :: t) with | some r => some (A, (q :: Q) ++ [r]) | none => none) := by
            unfold stepW; cases askW (w0 :: w1 :: w2 :: w3 :: t) <;> cases ruleW (w0 :: w1 :: w2 :: w3 :: t) <;> rfl
          rw [hd, hs]
          exact rest
      · rw [if_neg h4]
        have ea : askW (w0 :: ws) = none := by
          rcases ws with _ | ⟨w1, _ | ⟨w2, _ | ⟨w3, t⟩⟩⟩ <;> first | rfl | (simp at h4; omega)
        rw [nn ea]
        exact rest
    · have c0 : ¬ w0 = wAsk := c0'
      rw [if_neg c0']
      have ea : askW (w0 :: ws) = none := by
        unfold askW
        split
        · rename_i h; cases h; rw [if_neg (fun h => c0 h.1)]
        · rfl
      rw [nn ea]
      exact rest
end Go.Pv
/- Reading layouts: all lines, both sides. -/
namespace Go.Pv
open Go Go.Proofs

/-- What comes of all lines: good, or bad at a line; what the rows are then is left open. -/
def Came (good : Res) (bad : Nat → Res) (r : Nat ⊕ (List Ask × List Rule)) (o : Out) : Prop := match r with
  | .inr st => o = some (good, stE (st.1.map askC) (st.2.map ruleC))
  | .inl j => ∃ x y, o = some (bad j, stE x y)
structure StOk (i : Nat) (st : List Ask × List Rule) : Prop where
  asks : st.1.length ≤ i
  rules : st.2.length ≤ i
  choices : ∀ a ∈ st.1, a.choices.length ≤ 200000
theorem askW_len {w : List ByteArray} {a : Ask} (h : askW w = some a) : a.choices.length + 4 = w.length := by
  unfold askW at h
  split at h
  · split at h
    · cases h; simp
    · cases h
  · cases h
theorem stepL_ok {i : Nat} {st st' : List Ask × List Rule} {x : ByteArray} (hx : x.size ≤ 200000) (hi : StOk i st) (h : stepL st x = some st') : StOk (i + 1) st' := by
  obtain ⟨h1, h2, h3⟩ := hi
  unfold stepL at h
  split at h
  · cases h
  · unfold stepW at h
    have hr : ∀ (o : Option Rule), (match o with | some r => some (st.1, st.2 ++ [r]) | none => none) = some st' → StOk (i + 1) st' := by
      intro o h
      cases o with
      | none => cases h
      | some r => cases h; exact ⟨by simp; omega, by simp; omega, h3⟩
    split at h
    · rename_i a ha hR
      cases h
      refine ⟨by simp; omega, by simp, fun b hb => ?_⟩
      rcases List.mem_append.1 hb with hb | hb
      · exact h3 b hb
      · rcases List.mem_singleton.1 hb with rfl
        have := askW_len ha
        have := pieces_len 32 x
        omega
    · split at h
      · cases h; exact ⟨by simp; omega, by simp; omega, h3⟩
      · cases h
theorem rl_inv {i : Nat} {st st' : List Ask × List Rule} : ∀ (ps : List ByteArray), (∀ x ∈ ps, x.size ≤ 200000) → StOk i st → rl stepL i st ps = .inr st' → ∃ j, j ≤ i + (ps.length - 1) ∧ StOk j st'
  | [], _, hi, h => by cases h; exact ⟨i, by simp, hi⟩
  | [x], _, hi, h => by
    rw [rl] at h
    split at h
    · cases h; exact ⟨i, by simp, hi⟩
    · cases h
  | x :: y :: r, hp, hi, h => by
    rw [rl] at h
    cases hs : stepL st x with
    | none => rw [hs] at h; cases h
    | some st1 =>
      rw [hs] at h
      obtain ⟨j, hj, h'⟩ := rl_inv (i := i + 1) (y :: r) (fun z hz => hp z (List.mem_cons_of_mem _ hz)) (stepL_ok (hp x List.mem_cons_self) hi hs) h
      exact ⟨j, by simp at hj ⊢; omega, h'⟩
theorem lines1_ok (fu n : Nat) (xs : List ByteArray) (whole : Bool) (hxs : xs.length ≤ 200001) (hsz : ∀ x ∈ xs, x.size ≤ 200000) (hfu : 1000000 ≤ fu) : ∀ (m i k : Nat) (A : List Ask) (R : List Rule), i + m = xs.length → m < k → StOk i (A, R) →
    Came [.int .i64 (-1)] (fun j => [.int .i64 (j : Nat)]) (rv stepL whole xs.length i (A, R) (xs.drop i)) (review_lines_v1_L1 fu (n + 4) k (strs xs) whole (strs xs) (xs.length : Nat) (i : Nat) (A.map askC) (R.map ruleC))
  | m, i, 0, A, R, hi, hk, hs => by omega
  | 0, i, k + 1, A, R, hi, hk, hs => by
    have : i = xs.length := by omega
    subst this
    rw [List.drop_length, review_lines_v1_L1_eq, cnd_decide, if_neg (by omega)]
    exact rfl
  | m + 1, i, k + 1, A, R, hi, hk, hs => by
    have hlt : i < xs.length := by omega
    have hx := hsz xs[i] (List.getElem_mem hlt)
    have hw : (pieces 32 xs[i]).length ≤ 400000 := Nat.le_trans (pieces_len 32 _) (by omega)
    have ih := fun A' R' h => lines1_ok fu n xs whole hxs hsz hfu m (i + 1) k A' R' (by omega) (by omega) h
    have hany : ((pieces 32 xs[i]).any fun y => decide ((⟨#[]⟩ : ByteArray) = y)) = (pieces 32 xs[i]).any fun y => decide (y = ⟨#[]⟩) := by
      congr 1; funext y; exact decide_eq_decide.2 ⟨Eq.symm, Eq.symm⟩
    rw [List.drop_eq_getElem_cons hlt, rv, review_lines_v1_L1_eq, cnd_decide, if_pos (by omega), rdW (List.getElem?_eq_getElem hlt), Split_ev fu (n + 3) _ 32 (by omega), rL_some, ContainsS_ok fu (n + 2) _ _ hw hfu, rB_some, hany]
    unfold stepL
    cases ha : (pieces 32 xs[i]).any fun y => decide (y = (⟨#[]⟩ : ByteArray)) with
    | true => rw [cnd_true, if_pos rfl]; exact ⟨_, _, rfl⟩
    | false =>
      rw [cnd_false, if_neg (by decide)]
      obtain ⟨t1, t2⟩ := take1_ok fu n A R (pieces 32 xs[i]) hw (by have := hs.asks; simp at this; omega) (by have := hs.rules; simp at this; omega) hfu
      unfold stB stE at t1 t2
      cases hst : stepW (A, R) (pieces 32 xs[i]) with
      | none =>
        obtain ⟨x, y, h⟩ := t2 hst
        refine ⟨x, y, ?_⟩
        rw [h]
        simp only [callE_some', unX_cons, dBx_box, unC_cons, dRf_ref, unN_nil, dRw_row, unXN_nil, dB_bool, Bool.not_false, cnd_true]
        rfl
      | some st =>
        have h := t1 st hst
        have hs' : StOk (i + 1) st := stepL_ok hx hs (by unfold stepL; rw [if_neg (by rw [ha]; decide)]; exact hst)
        rw [h]
        simp only [callE_some', unX_cons, dBx_box, unC_cons, dRf_ref, unN_nil, dRw_row, unXN_nil, dB_bool, Bool.not_true, cnd_false]
        have hw1 : IntKind.i64.wrap (((xs.length : Nat) : Int) - 1) = ((xs.length - 1 : Nat) : Int) := by
          rw [w64 (by omega) (by omega)]; omega
        rw [i64s (by omega), strs_len, hw1]
        cases whole with
        | true =>
          simp only [Bool.not_true, cnd_false, Bool.false_and, Bool.false_eq_true, if_false]
          exact ih st.1 st.2 hs'
        | false =>
          simp only [Bool.not_false, cnd_true, Bool.true_and]
          by_cases he : i + 1 = xs.length
          · rw [cnd_decide, if_pos (show ((i : Nat) : Int) = ((xs.length - 1 : Nat) : Int) by omega), if_pos (show (i + 1 == xs.length) = true by simpa using he)]
            exact ⟨_, _, rfl⟩
          · rw [cnd_decide, if_neg (show ¬ ((i : Nat) : Int) = ((xs.length - 1 : Nat) : Int) by omega), if_neg (show ¬ (i + 1 == xs.length) = true by simpa using he)]
            exact ih st.1 st.2 hs'
theorem lines2_ok (fu n : Nat) (hfu : 1000000 ≤ fu) : ∀ (k i : Nat) (s : ByteArray) (A : List Ask) (R : List Rule), i + s.size ≤ 200000 → s.size < k → StOk i (A, R) →
    Came [.int .i64 0, .bool true] (fun j => [.int .i64 (j : Nat), .bool false]) (rl stepL i (A, R) (pieces 10 s)) (chaseref2_lines_v2_L1 fu (n + 4) k s (i : Nat) (A.map askC) (R.map ruleC))
  | 0, i, s, A, R, hi, hk, hs => by omega
  | k + 1, i, s, A, R, hi, hk, hs => by
    rw [chaseref2_lines_v2_L1_eq]
    by_cases h0 : s = ⟨#[]⟩
    · subst h0
      have hp : pieces 10 ⟨#[]⟩ = [⟨#[]⟩] := rfl
      rw [decide_eq_true rfl, Bool.not_true, cnd_false, hp, rl, if_pos rfl]
      exact rfl
    · rw [decide_eq_false h0, Bool.not_false, cnd_true]
      have hpos := size_pos h0
      rcases Go.Lib.indexB_cases s ⟨#[10]⟩ with h1 | ⟨j, h1, h2⟩
      · rw [Cut_miss fu (n + 1) s 10 (by omega) h1, pieces_miss 10 s h1, rl, if_neg h0]
        simp only [callE_some', unXN_nil, unC_cons, dS_str, dB_bool, unN_nil, Bool.not_false, cnd_true]
        exact ⟨_, _, rfl⟩
      · have h2' : j + 1 ≤ s.size := h2
        rw [Cut_hit fu (n + 1) s 10 (by omega) j h1, pieces_hit 10 s j h1]
        simp only [callE_some', unXN_nil, unC_cons, dS_str, dB_bool, unN_nil, Bool.not_true, cnd_false]
        have hx : (s.extract 0 j).size ≤ 200000 := by simp [ByteArray.size_extract]; omega
        have hr : (s.extract (j + 1) s.size).size = s.size - (j + 1) := by simp [ByteArray.size_extract]
        obtain ⟨y, r, hyr⟩ : ∃ y r, pieces 10 (s.extract (j + 1) s.size) = y :: r := by
          cases hp : pieces 10 (s.extract (j + 1) s.size) with
          | nil => exact absurd hp (pieces_ne _ _)
          | cons y r => exact ⟨y, r, rfl⟩
        obtain ⟨t1, t2⟩ := take2_ok fu n A R (s.extract 0 j) (by omega) (by have := hs.asks; simp at this; omega) (by have := hs.rules; simp at this; omega) hfu
        unfold stB stE at t1 t2
        rw [hyr, rl]
        cases hst : stepL (A, R) (s.extract 0 j) with
        | none =>
          obtain ⟨x, y, h⟩ := t2 hst
          refine ⟨x, y, ?_⟩
          rw [h]
          simp only [callE_some', unX_cons, dBx_box, unC_cons, dRf_ref, unN_nil, dRw_row, unXN_nil, dB_bool, Bool.not_false, cnd_true]
          rfl
        | some st =>
          have h := t1 st hst
          rw [h]
          simp only [callE_some', unX_cons, dBx_box, unC_cons, dRf_ref, unN_nil, dRw_row, unXN_nil, dB_bool, Bool.not_true, cnd_false]
          rw [i64s (by omega), ← hyr]
          exact lines2_ok fu n hfu k (i + 1) _ st.1 st.2 (by omega) (by omega) (stepL_ok hx hs hst)
theorem sp_sz (c : UInt8) : ∀ (l y : List UInt8), y ∈ sp c l → y.length ≤ l.length
  | [], y, h => by simp [sp] at h; simp [h]
  | b :: l, y, h => by
    have ih := sp_sz c l
    rw [sp] at h
    split at h
    · rcases List.mem_cons.1 h with rfl | h
      · simp
      · have := ih y h; simp; omega
    · split at h
      · rename_i hd tl e
        rcases List.mem_cons.1 h with rfl | h
        · have := ih hd (by rw [e]; exact List.mem_cons_self); simp; omega
        · have := ih y (by rw [e]; exact List.mem_cons_of_mem _ h); simp; omega
      · rcases List.mem_singleton.1 h with rfl
        simp
theorem pieces_sz (c : UInt8) (s : ByteArray) {n : Nat} (h : s.size ≤ n) : ∀ x ∈ pieces c s, x.size ≤ n := by
  intro x hx
  rw [pieces_sp] at hx
  obtain ⟨y, hy, rfl⟩ := List.mem_map.1 hx
  have := sp_sz c _ y hy
  have e : s.data.toList.length = s.size := rfl
  show y.toArray.size ≤ n
  rw [List.size_toArray]
  omega
/-! ### Both readers -/
def nilO (i : Nat) (e : Int) : Out := some ([.agg [.nil, .nil], .int .i64 (i : Nat), .int .i64 e], [])
def readO (s : ByteArray) : Out := if 200000 < s.size then nilO 0 2 else match rl stepL 0 ([], []) (pieces 10 s) with
  | .inl i => nilO i 9
  | .inr st => if layE ⟨st.1, st.2⟩ = 0 then some ([.agg [.list (st.1.map askC), .list (st.2.map ruleC)], .int .i64 0, .int .i64 0], []) else nilO 0 (layE ⟨st.1, st.2⟩)
theorem StOk.lay {j : Nat} {st : List Ask × List Rule} (h : StOk j st) (hj : j ≤ 200000) : LayOk ⟨st.1, st.2⟩ := ⟨Nat.le_trans h.asks hj, Nat.le_trans h.rules hj, h.choices⟩
theorem st0 : StOk 0 ([], []) := ⟨Nat.le_refl 0, Nat.le_refl 0, fun a h => by cases h⟩
theorem linesOf_ok (s : ByteArray) (h : s.size ≤ 200000) : (linesOf s).1.length ≤ 200001 ∧ ∀ x ∈ (linesOf s).1, x.size ≤ 200000 := by
  have hp : ∀ t : ByteArray, t.size ≤ 200000 → (pieces 10 t).length ≤ 200001 ∧ ∀ x ∈ pieces 10 t, x.size ≤ 200000 := fun t ht => ⟨Nat.le_trans (pieces_len 10 t) (by omega), pieces_sz 10 t ht⟩
  unfold linesOf
  split
  · exact ⟨by simp, fun x hx => by cases hx⟩
  · split
    · exact hp _ (by simp [ByteArray.size_extract]; omega)
    · exact hp s h
theorem rl_lay {s : ByteArray} (h : s.size ≤ 200000) {st : List Ask × List Rule} (hr : rl stepL 0 ([], []) (pieces 10 s) = .inr st) : LayOk ⟨st.1, st.2⟩ := by
  obtain ⟨j, hj, hs⟩ := rl_inv _ (pieces_sz 10 s h) st0 hr
  have := pieces_len 10 s
  exact hs.lay (by omega)
theorem ReadLayout_ok (fu n : Nat) (s : ByteArray) (hfu : 1000000 ≤ fu) : ev fu (n + 6) 12 [.str s] [] = readO s := by
  unfold readO
  rw [review_ReadLayout_eq, cnd_decide]
  by_cases hs : 200000 < s.size
  · rw [if_pos (by omega), if_pos hs]; rfl
  · rw [if_neg (by omega), if_neg hs]
    have hs' : s.size ≤ 200000 := by omega
    obtain ⟨l1, l2⟩ := linesOf_ok s hs'
    have h := lines1_ok fu n (linesOf s).1 (linesOf s).2 l1 l2 hfu (linesOf s).1.length 0 fu [] [] (by omega) (by omega) st0
    rw [List.drop_zero, lines_same] at h
    rw [review_lines_v1_eq, Lines_ok fu n s (by omega)]
    simp only [callE_some', unXN_nil, unC_cons, dL_list, dB_bool, unN_nil, strs_len]
    unfold Came at h
    cases hr : rl stepL 0 ([], []) (pieces 10 s) with
    | inl i =>
      rw [hr] at h
      obtain ⟨x, y, h⟩ := h
      have h' : review_lines_v1_L1 fu (n + 4) fu (strs (linesOf s).1) (linesOf s).2 (strs (linesOf s).1) ((linesOf s).1.length : Nat) (0 : Int) [] [] = some ([.int .i64 (i : Nat)], stE x y) := h
      rw [h']
      unfold stE
      simp only [callE_some', unX_cons, dBx_box, unC_cons, dRf_ref, unN_nil, dRw_row, unXN_nil, dI_int]
      rw [cnd_decide, if_pos (by omega)]
      rfl
    | inr st =>
      rw [hr] at h
      have h' : review_lines_v1_L1 fu (n + 4) fu (strs (linesOf s).1) (linesOf s).2 (strs (linesOf s).1) ((linesOf s).1.length : Nat) (0 : Int) [] [] = some ([.int .i64 (-1)], stE (st.1.map askC) (st.2.map ruleC)) := h
      rw [h']
      unfold stE
      simp only [callE_some', unX_cons, dBx_box, unC_cons, dRf_ref, unN_nil, dRw_row, unXN_nil, dI_int]
      have hc : ev fu (n + 5) 41 [.agg [.list (st.1.map askC), .list (st.2.map ruleC)]] [] = _ := CheckLayout_ok fu n ⟨st.1, st.2⟩ (rl_lay hs' hr) hfu
      rw [cnd_decide, if_neg (by decide), hc, rI_some]
      by_cases he : layE ⟨st.1, st.2⟩ = 0
      · rw [decide_eq_true he, Bool.not_true, cnd_false]; simp only [if_pos he]
      · rw [decide_eq_false he, Bool.not_false, cnd_true]; simp only [if_neg he]; rfl
theorem LayoutRead_ok (fu n : Nat) (s : ByteArray) (hfu : 1000000 ≤ fu) : ev fu (n + 6) 13 [.str s] [] = readO s := by
  unfold readO
  rw [chaseref2_LayoutRead_eq, cnd_decide]
  by_cases hs : 200000 < s.size
  · rw [if_pos (by omega), if_pos hs]; rfl
  · rw [if_neg (by omega), if_neg hs]
    have hs' : s.size ≤ 200000 := by omega
    have h := lines2_ok fu n hfu fu 0 s [] [] (by omega) (by omega) st0
    rw [chaseref2_lines_v2_eq]
    unfold Came at h
    cases hr : rl stepL 0 ([], []) (pieces 10 s) with
    | inl i =>
      rw [hr] at h
      obtain ⟨x, y, h⟩ := h
      have h' : chaseref2_lines_v2_L1 fu (n + 4) fu s (0 : Int) [] [] = some ([.int .i64 (i : Nat), .bool false], stE x y) := h
      rw [h']
      unfold stE
      simp only [callE_some', unX_cons, dBx_box, unC_cons, dRf_ref, unN_nil, dRw_row, unXN_nil, dI_int, dB_bool, Bool.not_false, cnd_true]
      rfl
    | inr st =>
      rw [hr] at h
      have h' : chaseref2_lines_v2_L1 fu (n + 4) fu s (0 : Int) [] [] = some ([.int .i64 0, .bool true], stE (st.1.map askC) (st.2.map ruleC)) := h
      rw [h']
      unfold stE
      simp only [callE_some', unX_cons, dBx_box, unC_cons, dRf_ref, unN_nil, dRw_row, unXN_nil, dI_int, dB_bool, Bool.not_true, cnd_false]
      have hc : ev fu (n + 5) 8 [.agg [.list (st.1.map askC), .list (st.2.map ruleC)]] [] = _ := LayoutFault_ok fu n ⟨st.1, st.2⟩ (rl_lay hs' hr) hfu
      rw [hc, rI_some]
      by_cases he : layE ⟨st.1, st.2⟩ = 0
      · rw [decide_eq_true he, Bool.not_true, cnd_false]; simp only [if_pos he]
      · rw [decide_eq_false he, Bool.not_false, cnd_true]; simp only [if_neg he]; rfl
end Go.Pv
/- Layouts as texts: both writers. -/
namespace Go.Pv
open Go Go.Proofs

def joinB (l : List ByteArray) (c : ByteArray) : ByteArray := ⟨(Go.Lib.join (l.map (·.data.toList)) c.data.toList).toArray⟩
theorem unStrs_strs : ∀ l : List ByteArray, unStrs (strs l) = some l
  | [] => rfl
  | x :: r => by
    have h : unStrs (strs (x :: r)) = (unStrs (strs r)).map (x :: ·) := rfl
    rw [h, unStrs_strs r]; rfl
theorem Join_ev (fu n : Nat) (l : List ByteArray) (c : ByteArray) (hl : l.length ≤ 1000000) (hs : (joinB l c).size ≤ 140737488355328) : ev fu (n + 1) 42 [.list (strs l), .str c] [] = some ([.str (joinB l c)], []) := by
  have h1 : ev fu (n + 1) 42 [.list (strs l), .str c] [] = joinH (evs fu n) [.list (strs l), .str c] [] := rfl
  have hs' : (Go.Lib.join (l.map (·.data.toList)) c.data.toList).length ≤ 140737488355328 := by
    have e : (joinB l c).size = (Go.Lib.join (l.map (·.data.toList)) c.data.toList).length := List.size_toArray
    omega
  rw [h1]
  unfold joinH
  simp only [unStrs_strs]
  exact if_pos ⟨hl, hs'⟩
theorem lens_le : ∀ (l : List ByteArray), (∀ x ∈ l, x.size ≤ 10) → Go.Lib.lens (l.map (·.data.toList)) ≤ 10 * l.length
  | [], _ => by simp [Go.Lib.lens]
  | x :: r, h => by
    have ih := lens_le r (fun y hy => h y (List.mem_cons_of_mem _ hy))
    have hx : x.data.toList.length ≤ 10 := h x List.mem_cons_self
    unfold Go.Lib.lens at ih ⊢
    simp only [List.map_cons, List.sum_cons, List.length_cons]
    omega
theorem joinB_sz (l : List ByteArray) (h : ∀ x ∈ l, x.size ≤ 10) (hl : l.length ≤ 7) : (joinB l ⟨#[32]⟩).size ≤ 77 := by
  have e : (joinB l ⟨#[32]⟩).size = (Go.Lib.join (l.map (·.data.toList)) [32]).length := List.size_toArray
  rw [e]
  cases l with
  | nil => simp [Go.Lib.join_nil]
  | cons x r =>
    have h2 := lens_le (x :: r) h
    have h3 : (Go.Lib.join ((x :: r).map (·.data.toList)) [32]).length = [32].length * (r.map (·.data.toList)).length + Go.Lib.lens ((x :: r).map (·.data.toList)) := by
      rw [List.map_cons]; exact Go.Lib.join_length _ _ _
    rw [h3]
    simp only [List.length_map, List.length_cons, List.length_nil] at hl h2 ⊢
    omega
def spW (i : Int) : ByteArray := (wSpreads[i.toNat]?).getD ⟨#[]⟩
def wKind (k : Int) : ByteArray := if k = 1 then wNeeds else wBars
def askWs (a : Ask) : List ByteArray := [wAsk, a.field, if a.many then wMany else wOne, spW a.spread] ++ a.choices
def ruleWs (r : Rule) : List ByteArray := [wRule, wKind r.kind, r.field, r.iff', r.other] ++ if r.thn = ⟨#[]⟩ then [] else [r.thn]
def lineB (l : List ByteArray) : ByteArray := joinB l ⟨#[32]⟩ ++ ⟨#[10]⟩
def txt (s : ByteArray) (l : List ByteArray) : ByteArray := l.foldl (· ++ ·) s
theorem lineB_sz (l : List ByteArray) (h : ∀ x ∈ l, x.size ≤ 10) (hl : l.length ≤ 7) : (lineB l).size ≤ 78 := by
  have := joinB_sz l h hl
  unfold lineB
  rw [ByteArray.size_append]
  show _ + 1 ≤ 78
  omega
theorem askWs_ok {a : Ask} (h : AskS a) : (∀ x ∈ askWs a, x.size ≤ 10) ∧ (askWs a).length ≤ 7 := by
  unfold askWs
  refine ⟨fun x hx => ?_, by have := h.len; simp; omega⟩
  rcases List.mem_append.1 hx with hx | hx
  · simp only [List.mem_cons, List.not_mem_nil, or_false] at hx
    rcases hx with rfl | rfl | rfl | rfl
    · decide
    · exact h.field
    · split <;> decide
    · unfold spW
      cases hq : wSpreads[a.spread.toNat]? with
      | none => decide
      | some w =>
        have hm := List.mem_of_getElem? hq
        unfold wSpreads at hm
        simp only [List.mem_cons, List.not_mem_nil, or_false] at hm
        rcases hm with rfl | rfl | rfl <;> decide
  · exact h.choices x hx
theorem ruleWs_ok {r : Rule} (h : RuleS r) : (∀ x ∈ ruleWs r, x.size ≤ 10) ∧ (ruleWs r).length ≤ 7 := by
  unfold ruleWs
  refine ⟨fun x hx => ?_, by split <;> simp⟩
  rcases List.mem_append.1 hx with hx | hx
  · simp only [List.mem_cons, List.not_mem_nil, or_false] at hx
    rcases hx with rfl | rfl | rfl | rfl | rfl
    · decide
    · unfold wKind; split <;> decide
    · exact h.field
    · exact h.iff'
    · exact h.other
  · split at hx
    · cases hx
    · rcases List.mem_singleton.1 hx with rfl
      exact h.thn
/-- A loop that writes a line for each. -/
theorem txt_loop {α : Type} (xs : List α) (g : α → ByteArray) (L : Nat → ByteArray → Int → Out) (r : ByteArray → Res) (b : Nat) (hg : ∀ x ∈ xs, (g x).size ≤ 78)
    (h0 : ∀ k s, s.size ≤ b + 78 * xs.length → L (k + 1) s (xs.length : Nat) = some (r s, []))
    (h1 : ∀ k (i : Nat) s (hi : i < xs.length) (o : Res), s.size ≤ b + 78 * i → L k (s ++ g xs[i]) ((i + 1 : Nat) : Int) = some (o, []) → L (k + 1) s i = some (o, [])) :
    ∀ (m i k : Nat) (s : ByteArray), i + m = xs.length → m < k → s.size ≤ b + 78 * i → L k s i = some (r (txt s ((xs.drop i).map g)), [])
  | m, i, 0, s, hi, hk, hs => by omega
  | 0, i, k + 1, s, hi, hk, hs => by
    have : i = xs.length := by omega
    subst this
    rw [h0 k s hs, List.drop_length]; rfl
  | m + 1, i, k + 1, s, hi, hk, hs => by
    have hlt : i < xs.length := by omega
    have hgx := hg xs[i] (List.getElem_mem hlt)
    have ih := txt_loop xs g L r b hg h0 h1 m (i + 1) k (s ++ g xs[i]) (by omega) (by omega) (by rw [ByteArray.size_append]; omega)
    rw [h1 k i s hlt _ hs ih, List.drop_eq_getElem_cons hlt]; rfl
/-! ### What can be written -/
structure SpOk (L : Lay) : Prop where
  spread : ∀ a ∈ L.asks, 0 ≤ a.spread ∧ a.spread ≤ 2
  kind : ∀ r ∈ L.rules, r.kind = 1 ∨ r.kind = 2
theorem fnz_zero : ∀ (l : List Int), fnz l = 0 → ∀ x ∈ l, x = 0
  | [], _, x, hx => by cases hx
  | a :: r, h, x, hx => by
    rw [fnz] at h
    split at h
    · rcases List.mem_cons.1 hx with rfl | hx
      · assumption
      · exact fnz_zero r h x hx
    · exact absurd h (by assumption)
theorem errL_zero {α : Type} (f : Nat → Unit → α → Int) : ∀ (xs : List α) (i : Nat), (errL f (fun _ s _ => s) i () xs).1 = 0 → ∀ x ∈ xs, ∃ j, f j () x = 0
  | [], _, _, x, hx => by cases hx
  | a :: r, i, h, x, hx => by
    rw [errL] at h
    split at h
    · rcases List.mem_cons.1 hx with rfl | hx
      · exact ⟨i, by assumption⟩
      · exact errL_zero f r (i + 1) h x hx
    · exact absurd h (by assumption)
theorem layE_sp {L : Lay} (h : layE L = 0) : SpOk L := by
  unfold layE at h
  have h' := fnz_zero _ h
  refine ⟨fun a ha => ?_, fun r hr => ?_⟩
  · obtain ⟨j, hj⟩ := errL_zero (fun i _ a => askE L.asks i a) L.asks 0 (h' _ (by simp)) a ha
    have := fnz_zero _ hj (if (!inB a.spread 0 2) = true then 4 else 0) (by simp)
    have h3 : inB a.spread 0 2 = true := by
      cases hb : inB a.spread 0 2 with
      | true => rfl
      | false => rw [hb] at this; simp at this
    unfold inB at h3
    simpa using h3
  · obtain ⟨j, hj⟩ := errL_zero (fun _ _ r => ruleE L.asks r) L.rules 0 (h' _ (by simp)) r hr
    have := fnz_zero _ hj (if (!inB r.kind 1 2) = true then 4 else 0) (by simp)
    have h3 : inB r.kind 1 2 = true := by
      cases hb : inB r.kind 1 2 with
      | true => rfl
      | false => rw [hb] at this; simp at this
    unfold inB at h3
    have := of_decide_eq_true h3
    omega
theorem LayR.sp {L : Lay} (h : LayR L) : SpOk L := ⟨h.spread, fun r hr => (h.kind r hr).kind⟩
end Go.Pv
/- Layouts as texts: both writers, walked. -/
namespace Go.Pv
open Go Go.Proofs

theorem spW_rd {sp : Int} (h : 0 ≤ sp ∧ sp ≤ 2) : (strs wSpreads)[sp.toNat]? = some (sS (spW sp)) ∧ sp = (sp.toNat : Int) ∧ sp.toNat < 3 := by
  have h3 : sp = 0 ∨ sp = 1 ∨ sp = 2 := by omega
  rcases h3 with rfl | rfl | rfl <;> exact ⟨rfl, rfl, by decide⟩
theorem chosen_ev (fu n : Nat) (b : Bool) (x y : ByteArray) : ev fu (n + 1) 43 [.bool b, .str x, .str y] [] = some ([.str (if b then x else y)], []) := by
  rw [review_chosen_eq]; cases b <;> rfl
theorem flag_ev (fu n : Nat) (b : Bool) : ev fu (n + 1) 50 [.bool b] [] = some ([.int .i64 (if b then 1 else 0)], []) := by
  rw [chaseref2_flag_eq]; cases b <;> rfl
theorem txt_sz {b : Nat} : ∀ (l : List ByteArray) (s : ByteArray), (∀ x ∈ l, x.size ≤ 78) → s.size ≤ b → (txt s l).size ≤ b + 78 * l.length
  | [], s, _, hs => hs
  | x :: r, s, h, hs => by
    have := txt_sz (b := b + 78) r (s ++ x) (fun y hy => h y (List.mem_cons_of_mem _ hy)) (by rw [ByteArray.size_append]; have := h x List.mem_cons_self; omega)
    show (txt (s ++ x) r).size ≤ _
    simp only [List.length_cons]; omega
section
variable (L : Lay) (hS : LayS L) (hP : SpOk L)
include hS hP
/-- All of it. -/
def layT (L : Lay) : ByteArray := txt (txt ⟨#[]⟩ (L.asks.map fun a => lineB (askWs a))) (L.rules.map fun r => lineB (ruleWs r))
theorem TextLayout_L2 (fu n : Nat) (hfu : 1000000 ≤ fu) (s : ByteArray) (hs : s.size ≤ 234) : review_TextLayout_L2 fu (n + 3) fu s (L.rules.map ruleC) (L.rules.length : Nat) (0 : Int) = some ([.str (txt s (L.rules.map fun r => lineB (ruleWs r))), .int .i64 0], []) := by
  have hr := hS.rlen
  have h := txt_loop L.rules (fun r => lineB (ruleWs r)) (fun k s i => review_TextLayout_L2 fu (n + 3) k s (L.rules.map ruleC) (L.rules.length : Nat) i) (fun s => [.str s, .int .i64 0]) 234 (fun r hr => by have := ruleWs_ok (hS.rules r hr); exact lineB_sz _ this.1 this.2)
    (fun k s hs => by
      rw [review_TextLayout_L2_eq, cnd_decide, if_neg (by omega), cnd_decide, if_neg (by omega)])
    (fun k i s hi o hs ih => by
      obtain ⟨w1, w2⟩ := ruleWs_ok (hS.rules L.rules[i] (List.getElem_mem _))
      have hb := joinB_sz _ w1 w2
      have hk := hP.kind L.rules[i] (List.getElem_mem _)
      rw [review_TextLayout_L2_eq, cnd_decide, if_pos (by omega), rdRule hi]
      simp only [eqM_self', chosen_ev, rS_some]
      generalize L.rules[i] = r at *
      have ek : (if decide (r.kind = 1) = true then (⟨#[110, 101, 101, 100, 115]⟩ : ByteArray) else ⟨#[98, 97, 114, 115]⟩) = wKind r.kind := by
        unfold wKind wNeeds wBars; simp only [decide_eq_true_eq]
      rw [ek]
      by_cases ht : r.thn = ⟨#[]⟩
      · have e : ruleWs r = [wRule, wKind r.kind, r.field, r.iff', r.other] := by unfold ruleWs; rw [if_pos ht, List.append_nil]
        have J : ev fu (n + 3) 42 [.list ([[.str (⟨#[114, 117, 108, 101]⟩ : ByteArray)], [.str (wKind r.kind)], [.str r.field], [.str r.iff'], [.str r.other]] : List (List MV)), .str (⟨#[32]⟩ : ByteArray)] [] = some ([.str (joinB (ruleWs r) ⟨#[32]⟩)], []) := by
          rw [← Join_ev fu (n + 2) (ruleWs r) ⟨#[32]⟩ (by omega) (by omega), e]; rfl
        rw [decide_eq_true ht, Bool.not_true, cnd_false, J, rS_some, stG_pos (by show _ + 1 ≤ _; omega), stG_pos (by rw [ByteArray.size_append]; show _ + (_ + 1) ≤ _; omega), i64s (by omega)]
        exact ih
      · have e : ruleWs r = [wRule, wKind r.kind, r.field, r.iff', r.other] ++ [r.thn] := by unfold ruleWs; rw [if_neg ht]
        have J : ev fu (n + 3) 42 [.list (([[.str (⟨#[114, 117, 108, 101]⟩ : ByteArray)], [.str (wKind r.kind)], [.str r.field], [.str r.iff'], [.str r.other]] : List (List MV)) ++ ([[.str r.thn]] : List (List MV))), .str (⟨#[32]⟩ : ByteArray)] [] = some ([.str (joinB (ruleWs r) ⟨#[32]⟩)], []) := by
          rw [← Join_ev fu (n + 2) (ruleWs r) ⟨#[32]⟩ (by omega) (by omega), e]; rfl
        rw [decide_eq_false ht, Bool.not_false, cnd_true, gL_pos (by simp), J, rS_some, stG_pos (by show _ + 1 ≤ _; omega), stG_pos (by rw [ByteArray.size_append]; show _ + (_ + 1) ≤ _; omega), i64s (by omega)]
        exact ih) L.rules.length 0 fu s (by omega) (by omega) (by omega)
  exact h
theorem LayoutLines_L2 (fu n : Nat) (hfu : 1000000 ≤ fu) (s : ByteArray) (hs : s.size ≤ 234) : chaseref2_LayoutLines_L2 fu (n + 3) fu s (L.rules.map ruleC) (L.rules.length : Nat) (0 : Int) = some ([.str (txt s (L.rules.map fun r => lineB (ruleWs r)))], []) := by
  have hr := hS.rlen
  have h := txt_loop L.rules (fun r => lineB (ruleWs r)) (fun k s i => chaseref2_LayoutLines_L2 fu (n + 3) k s (L.rules.map ruleC) (L.rules.length : Nat) i) (fun s => [.str s]) 234 (fun r hr => by have := ruleWs_ok (hS.rules r hr); exact lineB_sz _ this.1 this.2)
    (fun k s hs => by
      rw [chaseref2_LayoutLines_L2_eq, cnd_decide, if_neg (by omega)])
    (fun k i s hi o hs ih => by
      obtain ⟨w1, w2⟩ := ruleWs_ok (hS.rules L.rules[i] (List.getElem_mem _))
      have hb := joinB_sz _ w1 w2
      have hk := hP.kind L.rules[i] (List.getElem_mem _)
      rw [chaseref2_LayoutLines_L2_eq, cnd_decide, if_pos (by omega), rdRule hi]
      generalize L.rules[i] = r at *
      have hx : ∀ o : Out, ixG (List.length ([[.str (⟨#[]⟩ : ByteArray)], [.str (⟨#[110, 101, 101, 100, 115]⟩ : ByteArray)], [.str (⟨#[98, 97, 114, 115]⟩ : ByteArray)]] : List (List MV))) r.kind o = o := fun o => ixG_pos (by omega) (by show _ < 3; omega) o
      have hd : ∀ K : List MV → Out, rdN ([[.str (⟨#[]⟩ : ByteArray)], [.str (⟨#[110, 101, 101, 100, 115]⟩ : ByteArray)], [.str (⟨#[98, 97, 114, 115]⟩ : ByteArray)]] : List (List MV)) (Int.toNat r.kind) K = K (sS (wKind r.kind)) := fun K => rdN_get (by rcases hk with h | h <;> rw [h] <;> rfl) K
      simp only [eqM_self', hx, hd, sS, cel_zero, dS_str]
      by_cases ht : r.thn = ⟨#[]⟩
      · have e : ruleWs r = [wRule, wKind r.kind, r.field, r.iff', r.other] := by unfold ruleWs; rw [if_pos ht, List.append_nil]
        have J : ev fu (n + 3) 42 [.list ([[.str (⟨#[114, 117, 108, 101]⟩ : ByteArray)], [.str (wKind r.kind)], [.str r.field], [.str r.iff'], [.str r.other]] : List (List MV)), .str (⟨#[32]⟩ : ByteArray)] [] = some ([.str (joinB (ruleWs r) ⟨#[32]⟩)], []) := by
          rw [← Join_ev fu (n + 2) (ruleWs r) ⟨#[32]⟩ (by omega) (by omega), e]; rfl
        rw [decide_eq_true ht, Bool.not_true, cnd_false, J, rS_some, stG_pos (by show _ + 1 ≤ _; omega), stG_pos (by rw [ByteArray.size_append]; show _ + (_ + 1) ≤ _; omega), i64s (by omega)]
        exact ih
      · have e : ruleWs r = [wRule, wKind r.kind, r.field, r.iff', r.other] ++ [r.thn] := by unfold ruleWs; rw [if_neg ht]
        have J : ev fu (n + 3) 42 [.list (([[.str (⟨#[114, 117, 108, 101]⟩ : ByteArray)], [.str (wKind r.kind)], [.str r.field], [.str r.iff'], [.str r.other]] : List (List MV)) ++ ([[.str r.thn]] : List (List MV))), .str (⟨#[32]⟩ : ByteArray)] [] = some ([.str (joinB (ruleWs r) ⟨#[32]⟩)], []) := by
          rw [← Join_ev fu (n + 2) (ruleWs r) ⟨#[32]⟩ (by omega) (by omega), e]; rfl
        rw [decide_eq_false ht, Bool.not_false, cnd_true, gL_pos (by simp), J, rS_some, stG_pos (by show _ + 1 ≤ _; omega), stG_pos (by rw [ByteArray.size_append]; show _ + (_ + 1) ≤ _; omega), i64s (by omega)]
        exact ih) L.rules.length 0 fu s (by omega) (by omega) (by omega)
  exact h
theorem TextLayout_ev (fu n : Nat) (hfu : 1000000 ≤ fu) (h0 : layE L = 0) : ev fu (n + 6) 7 [layM L] [] = some ([.str (layT L), .int .i64 0], []) := by
  have ha := hS.alen
  have hc : ev fu (n + 5) 41 [layM L] [] = _ := CheckLayout_ok fu n L hS.ok hfu
  have h := txt_loop L.asks (fun a => lineB (askWs a)) (fun k s i => review_TextLayout_L1 fu (n + 5) k (L.asks.map askC) (L.rules.map ruleC) s (L.asks.map askC) (L.asks.length : Nat) i) (fun s => [.str (txt s (L.rules.map fun r => lineB (ruleWs r))), .int .i64 0]) 0 (fun a ha => by have := askWs_ok (hS.asks a ha); exact lineB_sz _ this.1 this.2)
    (fun k s hs => by
      rw [review_TextLayout_L1_eq, cnd_decide, if_neg (by omega), List.length_map]
      exact TextLayout_L2 L hS hP fu (n + 2) hfu s (by omega))
    (fun k i s hi o hs ih => by
      obtain ⟨w1, w2⟩ := askWs_ok (hS.asks L.asks[i] (List.getElem_mem _))
      have hb := joinB_sz _ w1 w2
      have hp := spW_rd (hP.spread L.asks[i] (List.getElem_mem _))
      rw [review_TextLayout_L1_eq, cnd_decide, if_pos (by omega), rdAsk hi]
      generalize L.asks[i] = a at *
      have hd : ∀ K : List MV → Out, rd (strs wSpreads) a.spread K = K (sS (spW a.spread)) := fun K => by rw [hp.2.1]; exact rd_nat hp.1 K
      have e : askWs a = [wAsk, a.field, if a.many then wMany else wOne, spW a.spread] ++ a.choices := rfl
      have J : ev fu (n + 5) 42 [.list (([[.str (⟨#[97, 115, 107]⟩ : ByteArray)], [.str a.field], [.str (if a.many then (⟨#[109, 97, 110, 121]⟩ : ByteArray) else ⟨#[111, 110, 101]⟩)], [.str (spW a.spread)]] : List (List MV)) ++ strs a.choices), .str (⟨#[32]⟩ : ByteArray)] [] = some ([.str (joinB (askWs a) ⟨#[32]⟩)], []) := by
        rw [← Join_ev fu (n + 4) (askWs a) ⟨#[32]⟩ (by omega) (by omega), e]; rfl
      have hwid : wid 1 (strs a.choices) = true := wid_map (f := sS) sS_len a.choices
      have hlen : a.choices.length ≤ 7 := by rw [e] at w2; simp at w2; omega
      simp only [eqM_self', chosen_ev, rS_some, spreads_ok fu (n + 3), rL_some, hd, sS_len, gd_true]
      simp only [sS, cel_zero, dS_str, eqM_self', hwid, sB_true]
      rw [gL_pos (by simp; omega), J, rS_some, stG_pos (by show _ + 1 ≤ _; omega), stG_pos (by rw [ByteArray.size_append]; show _ + (_ + 1) ≤ _; omega), i64s (by omega)]
      exact ih) L.asks.length 0 fu ⟨#[]⟩ (by omega) (by omega) (by show 0 ≤ _; omega)
  rw [review_TextLayout_eq, hc, rI_some, decide_eq_true h0, Bool.not_true, cnd_false, List.length_map]
  exact h
theorem LayoutLines_ev (fu n : Nat) (hfu : 1000000 ≤ fu) : ev fu (n + 6) 9 [layM L] [] = some ([.str (layT L)], []) := by
  have ha := hS.alen
  have h := txt_loop L.asks (fun a => lineB (askWs a)) (fun k s i => chaseref2_LayoutLines_L1 fu (n + 5) k (L.asks.map askC) (L.rules.map ruleC) s (L.asks.map askC) (L.asks.length : Nat) i) (fun s => [.str (txt s (L.rules.map fun r => lineB (ruleWs r)))]) 0 (fun a ha => by have := askWs_ok (hS.asks a ha); exact lineB_sz _ this.1 this.2)
    (fun k s hs => by
      rw [chaseref2_LayoutLines_L1_eq, cnd_decide, if_neg (by omega), List.length_map]
      exact LayoutLines_L2 L hS hP fu (n + 2) hfu s (by omega))
    (fun k i s hi o hs ih => by
      obtain ⟨w1, w2⟩ := askWs_ok (hS.asks L.asks[i] (List.getElem_mem _))
      have hb := joinB_sz _ w1 w2
      have hp := spW_rd (hP.spread L.asks[i] (List.getElem_mem _))
      rw [chaseref2_LayoutLines_L1_eq, cnd_decide, if_pos (by omega), rdAsk hi]
      generalize L.asks[i] = a at *
      have hd : ∀ K : List MV → Out, rdN (strs wSpreads) (Int.toNat a.spread) K = K (sS (spW a.spread)) := fun K => rdN_get hp.1 K
      have hx : ∀ o : Out, ixG (List.length (strs wSpreads)) a.spread o = o := fun o => ixG_pos (by omega) (by show _ < 3; omega) o
      have e : askWs a = [wAsk, a.field, if a.many then wMany else wOne, spW a.spread] ++ a.choices := rfl
      have J : ev fu (n + 5) 42 [.list (([[.str (⟨#[97, 115, 107]⟩ : ByteArray)], [.str a.field], [.str (if a.many then (⟨#[109, 97, 110, 121]⟩ : ByteArray) else ⟨#[111, 110, 101]⟩)], [.str (spW a.spread)]] : List (List MV)) ++ strs a.choices), .str (⟨#[32]⟩ : ByteArray)] [] = some ([.str (joinB (askWs a) ⟨#[32]⟩)], []) := by
        rw [← Join_ev fu (n + 4) (askWs a) ⟨#[32]⟩ (by omega) (by omega), e]; rfl
      have hwid : wid 1 (strs a.choices) = true := wid_map (f := sS) sS_len a.choices
      have hlen : a.choices.length ≤ 7 := by rw [e] at w2; simp at w2; omega
      have hm : ∀ K : List MV → Out, rd ([[.str (⟨#[111, 110, 101]⟩ : ByteArray)], [.str (⟨#[109, 97, 110, 121]⟩ : ByteArray)]] : List (List MV)) (if a.many then (1 : Int) else 0) K = K (sS (if a.many then (⟨#[109, 97, 110, 121]⟩ : ByteArray) else ⟨#[111, 110, 101]⟩)) := fun K => by cases a.many <;> rfl
      simp only [eqM_self', flag_ev, rI_some, hm, spreadW_ok fu (n + 4), rO_some]
      simp only [sS_len, gd_true]
      simp only [eqM_self', hx, hd]
      simp only [sS, cel_zero, dS_str, eqM_self', hwid, sB_true]
      rw [gL_pos (by simp; omega), J, rS_some, stG_pos (by show _ + 1 ≤ _; omega), stG_pos (by rw [ByteArray.size_append]; show _ + (_ + 1) ≤ _; omega), i64s (by omega)]
      have ih' : chaseref2_LayoutLines_L1 fu (n + 5) k (L.asks.map askC) (L.rules.map ruleC) (s ++ (joinB (askWs a) ⟨#[32]⟩ ++ ⟨#[10]⟩)) (L.asks.map askC) (L.asks.length : Nat) ((i + 1 : Nat) : Int) = some (o, []) := ih
      rw [ih']
      exact eqO_self o) L.asks.length 0 fu ⟨#[]⟩ (by omega) (by omega) (by show 0 ≤ _; omega)
  rw [chaseref2_LayoutLines_eq, List.length_map]
  exact h
end
/-! ### The same -/
theorem EqualR_same (fu n : Nat) (l : List Rule) (hl : l.length ≤ 400000) (hfu : 1000000 ≤ fu) : ev fu (n + 1) 62 [.list (l.map ruleC), .list (l.map ruleC)] [] = some ([.bool true], []) := by
  have h := true_loop l (fun k i => slices_Equal_Sapi_Rule_api_Rule_L1 fu n k (l.map ruleC) (l.map ruleC) (l.length : Nat) i)
    (fun k => by rw [slices_Equal_Sapi_Rule_api_Rule_L1_eq, cnd_decide, if_neg (by omega)])
    (fun k i hi => by
      have he : ∀ r : Rule, eqCells [TK.int IntKind.i64, TK.str, TK.str, TK.str, TK.str] ([.int .i64 r.kind, .str r.field, .str r.iff', .str r.other, .str r.thn] : List MV) ([.int .i64 r.kind, .str r.field, .str r.iff', .str r.other, .str r.thn] : List MV) = some true := fun r => by simp [eqCells, eq1]
      rw [slices_Equal_Sapi_Rule_api_Rule_L1_eq, cnd_decide, if_pos (by omega), rdRule hi, rdRule hi]
      simp only [he, sO_some', eqM_self', Bool.not_true, cnd_false]
      rw [i64s (by omega)]) l.length 0 fu (by omega) (by omega)
  rw [slices_Equal_Sapi_Rule_api_Rule_eq, decide_eq_true rfl, Bool.not_true, cnd_false, List.length_map]
  exact h
theorem EqualFuncA_same (fu n : Nat) (l : List Ask) (hl : l.length ≤ 400000) (hc : ∀ a ∈ l, a.choices.length ≤ 400000) (hfu : 1000000 ≤ fu) : ev fu (n + 3) 63 [.list (l.map askC), .list (l.map askC), .fn 64 []] [] = some ([.bool true], []) := by
  have h := true_loop l (fun k i => slices_EqualFunc_Sapi_Ask_Sapi_Ask_api_Ask_api_Ask_L1 fu (n + 2) k (l.map askC) 64 [] (l.map askC) (l.length : Nat) i)
    (fun k => by rw [slices_EqualFunc_Sapi_Ask_Sapi_Ask_api_Ask_api_Ask_L1_eq, cnd_decide, if_neg (by omega)])
    (fun k i hi => by
      have hs := EqualS_same fu n l[i].choices (hc _ (List.getElem_mem _)) hfu
      have h1 : ev fu (n + 2) 64 [.agg [.str l[i].field, .list (strs l[i].choices), .bool l[i].many, .int .i64 l[i].spread], .agg [.str l[i].field, .list (strs l[i].choices), .bool l[i].many, .int .i64 l[i].spread]] [] = some ([.bool true], []) := by
        rw [chaseref2_SameLayout_1_eq]
        simp only [decide_true, cnd_true, beq_self_eq_true]
        rw [hs, rB_some]
      rw [slices_EqualFunc_Sapi_Ask_Sapi_Ask_api_Ask_api_Ask_L1_eq, cnd_decide, if_pos (by omega), rdAsk hi, rdAsk hi, npG_pos (by simp)]
      simp only [List.append_nil, h1, rB_some, Bool.not_true, cnd_false]
      rw [i64s (by omega)]; rfl) l.length 0 fu (by omega) (by omega)
  rw [slices_EqualFunc_Sapi_Ask_Sapi_Ask_api_Ask_api_Ask_eq, decide_eq_true rfl, Bool.not_true, cnd_false, List.length_map]
  exact h
theorem SameLayout_same (fu n : Nat) (L : Lay) (hL : LayOk L) (hfu : 1000000 ≤ fu) : ev fu (n + 4) 14 [layM L, layM L] [] = some ([.bool true], []) := by
  rw [chaseref2_SameLayout_eq, EqualR_same fu (n + 2) L.rules (by have := hL.rules; omega) hfu, rB_some, cnd_true, EqualFuncA_same fu n L.asks (by have := hL.asks; omega) (fun a ha => by have := hL.choices a ha; omega) hfu, rB_some]
end Go.Pv
/- Texts that are nearly right; the law LayoutTexts. -/
namespace Go.Pv
open Go Go.Proofs

theorem enc_sz (i : Int) : (Utf8.encode i).size ≤ 4 := by
  unfold Utf8.encode
  simp only
  repeat' split
  all_goals simp [ByteArray.size]
theorem Changed_ok (fu n : Nat) (ls : List Int) (at_ : Int) (s w : ByteArray) (h0 : 0 ≤ at_) (h1 : at_ < 4000000000000000000) (hs : s.size ≤ 1000000) (hw : 1 ≤ w.size ∧ w.size ≤ 100) :
    ∃ t a, t.size ≤ s.size + 100 ∧ at_ ≤ a ∧ a ≤ at_ + 3 ∧ ev fu (n + 3) 52 [.ptr 0 0, .str s, .str w] (sb ls at_) = some ([.str t], sb ls a) := by
  rw [chasemake_Stream_Changed_eq]
  by_cases e0 : s = ⟨#[]⟩
  · rw [decide_eq_true e0, cnd_true]
    exact ⟨w, at_, by omega, by omega, by omega, rfl⟩
  · have hp := size_pos e0
    have e1 : ¬ w = ⟨#[]⟩ := fun h => by subst h; exact absurd hw.1 (by decide)
    rw [decide_eq_false e0, cnd_false, decide_eq_false e1, cnd_false]
    obtain ⟨i, hi, g1⟩ := Next_ok fu n ls at_ (s.size : Int) (by omega) (by omega)
    obtain ⟨j, hj, g2⟩ := Next_ok fu n ls (at_ + 1) (w.size : Int) (by omega) (by omega)
    obtain ⟨c, hc, g3⟩ := Next_ok fu n ls (at_ + 1 + 1) 3 (by omega) (by omega)
    have hi := hi (by omega) (by omega)
    have hj := hj (by omega) (by omega)
    obtain ⟨p, rfl⟩ : ∃ p : Nat, i = p := ⟨i.toNat, by omega⟩
    rw [g1, skI_some, g2, skI_some, ixS_pos (by omega) (by omega), g3, skI_some]
    generalize bAt w j.toNat = b
    have hz := enc_sz (IntKind.i32.wrap b)
    generalize Utf8.encode (IntKind.i32.wrap b) = u at *
    have z1 : (s.extract 0 p).size ≤ s.size := by simp [ByteArray.size_extract]; omega
    have z2 : (s.extract (p + 1) s.size).size + (p + 1) ≤ s.size := by simp [ByteArray.size_extract]; omega
    have z3 : (s.extract p s.size).size + p ≤ s.size := by simp [ByteArray.size_extract]; omega
    have z4 : (s.extract 0 p).size ≤ p := by simp [ByteArray.size_extract]; omega
    have s1 : ∀ K : ByteArray → Out, slS s ((0 : Nat) : Int) (p : Int) K = K (s.extract 0 p) := fun K => slS_pos (by omega) K
    have s2 : ∀ K : ByteArray → Out, slS s (IntKind.i64.wrap ((p : Int) + 1)) (s.size : Int) K = K (s.extract (p + 1) s.size) := fun K => by rw [i64s (by omega)]; exact slS_pos (by omega) K
    have s3 : ∀ K : ByteArray → Out, slS s (p : Int) (s.size : Int) K = K (s.extract p s.size) := fun K => slS_pos (by omega) K
    have t1 : ∀ o : Out, stG (s.extract 0 p) u o = o := fun o => stG_pos (by omega) o
    have t2 : ∀ o : Out, stG (s.extract 0 p ++ u) (s.extract (p + 1) s.size) o = o := fun o => stG_pos (by rw [ByteArray.size_append]; omega) o
    have t3 : ∀ o : Out, stG (s.extract 0 p ++ u) (s.extract p s.size) o = o := fun o => stG_pos (by rw [ByteArray.size_append]; omega) o
    have t4 : ∀ o : Out, stG (s.extract 0 p) (s.extract (p + 1) s.size) o = o := fun o => stG_pos (by omega) o
    simp only [s1, s2, s3, t1, t2, t3, t4, eqM_self', cnd_decide]
    split
    · exact ⟨_, _, by rw [ByteArray.size_append, ByteArray.size_append]; omega, by omega, by omega, rfl⟩
    · split
      · exact ⟨_, _, by rw [ByteArray.size_append, ByteArray.size_append]; omega, by omega, by omega, rfl⟩
      · exact ⟨_, _, by rw [ByteArray.size_append]; omega, by omega, by omega, rfl⟩
theorem Clone_ev (fu n : Nat) (s : ByteArray) (h : s.size ≤ 281474976710656) : ev fu (n + 2) 53 [.str s] [] = some ([.str s], []) := by
  have h1 : ev fu (n + 1) 102 [.str s] [] = cloneH (evs fu n) [.str s] [] := rfl
  rw [strings_Clone_eq, h1, show cloneH (evs fu n) [.str s] [] = some ([.str s], []) from if_pos h, rS_some]
theorem nearly_L1 (fu n : Nat) (ls : List Int) (w : ByteArray) (hw : 1 ≤ w.size ∧ w.size ≤ 100) (N : Nat) (hN : N ≤ 5) : ∀ (m i k : Nat) (s : ByteArray) (at_ : Int), i + m = N → m < k → 0 ≤ at_ → at_ + 3 * m < 4000000000000000000 → s.size ≤ 100000 + 100 * i →
    ∃ t a, at_ ≤ a ∧ a ≤ at_ + 3 * m ∧ chaselaw2_nearly_L1 fu (n + 3) k s w (N : Nat) (i : Nat) (ls.map i1) at_ = some ([.str t], sb ls a)
  | m, i, 0, s, at_, hi, hk, h0, h1, hs => by omega
  | 0, i, k + 1, s, at_, hi, hk, h0, h1, hs => by
    rw [chaselaw2_nearly_L1_eq, cnd_decide, if_neg (by omega), Clone_ev fu (n + 1) s (by omega), rS_some]
    exact ⟨s, at_, by omega, by omega, rfl⟩
  | m + 1, i, k + 1, s, at_, hi, hk, h0, h1, hs => by
    obtain ⟨t, a, ht, a0, a1, g⟩ := Changed_ok fu n ls at_ s w h0 (by omega) (by omega) hw
    obtain ⟨t', a', b0, b1, g'⟩ := nearly_L1 fu n ls w hw N hN m (i + 1) k t a (by omega) (by omega) (by omega) (by omega) (by omega)
    rw [chaselaw2_nearly_L1_eq, cnd_decide, if_pos (by omega), g, skS_some, i64s (by omega)]
    exact ⟨t', a', by omega, by omega, g'⟩
theorem nearly_ok (fu n : Nat) (hfu : 1000000 ≤ fu) (ls : List Int) (at_ : Int) (s w : ByteArray) (h0 : 0 ≤ at_) (h1 : at_ < 3000000000000000000) (hs : s.size ≤ 100000) (hw : 1 ≤ w.size ∧ w.size ≤ 100) :
    ∃ t a, 0 ≤ a ∧ a ≤ at_ + 7 ∧ ev fu (n + 4) 10 [.ptr 0 0, .str s, .str w] (sb ls at_) = some ([.str t], sb ls a) := by
  obtain ⟨x, hx, g⟩ := Pick_okL fu n ls at_ [[.int .i64 0], [.int .i64 1], [.int .i64 1], [.int .i64 2]] [0, 1, 1, 2] rfl h0 (by omega) (by simp) (by simp)
  have hx' : 0 ≤ x ∧ x ≤ 2 := by simp at hx; omega
  obtain ⟨N, rfl⟩ : ∃ N : Nat, x = N := ⟨x.toNat, by omega⟩
  obtain ⟨t, a, b0, b1, g2⟩ := nearly_L1 fu n ls w hw N (by omega) N 0 fu s (at_ + 1) (by omega) (by omega) (by omega) (by omega) (by omega)
  refine ⟨t, a, by omega, by omega, ?_⟩
  rw [chaselaw2_nearly_eq, g, skI_some]
  exact g2
theorem layT_sz {L : Lay} (hS : LayS L) : (layT L).size ≤ 1000 := by
  have ha := hS.alen
  have hr := hS.rlen
  have h1 := txt_sz (b := 0) (L.asks.map fun a => lineB (askWs a)) ⟨#[]⟩ (fun x hx => by
    obtain ⟨a, ha, rfl⟩ := List.mem_map.1 hx
    have := askWs_ok (hS.asks a ha); exact lineB_sz _ this.1 this.2) (by decide)
  have h2 := txt_sz (L.rules.map fun r => lineB (ruleWs r)) _ (fun x hx => by
    obtain ⟨a, ha, rfl⟩ := List.mem_map.1 hx
    have := ruleWs_ok (hS.rules a ha); exact lineB_sz _ this.1 this.2) h1
  simp only [List.length_map] at h2
  unfold layT
  omega
theorem TextLayout_no (fu n : Nat) (L : Lay) (hL : LayOk L) (hfu : 1000000 ≤ fu) (h0 : ¬ layE L = 0) : ev fu (n + 6) 7 [layM L] [] = some ([.str ⟨#[]⟩, .int .i64 (layE L)], []) := by
  have hc : ev fu (n + 5) 41 [layM L] [] = _ := CheckLayout_ok fu n L hL hfu
  rw [review_TextLayout_eq, hc, rI_some, decide_eq_false h0, Bool.not_false, cnd_true]
/-- The second half: a text is read by both. -/
theorem readO_same (s : ByteArray) : (∃ i e, readO s = nilO i e) ∨ ∃ L, LayOk L ∧ readO s = some ([layM L, .int .i64 0, .int .i64 0], []) := by
  unfold readO
  split
  · exact .inl ⟨_, _, rfl⟩
  · rename_i hs
    cases hr : rl stepL 0 ([], []) (pieces 10 s) with
    | inl i => exact .inl ⟨_, _, rfl⟩
    | inr st =>
      simp only
      split
      · exact .inr ⟨⟨st.1, st.2⟩, rl_lay (by omega) hr, rfl⟩
      · exact .inl ⟨_, _, rfl⟩
end Go.Pv
/- The law LayoutTexts. -/
namespace Go.Pv
open Go Go.Proofs

theorem LayoutTexts_ok (fu n : Nat) (ls : List Int) (hfu : 1000000 ≤ fu) : ev fu (n + 30) 3 [.list (ls.map i1)] [] = some ([.bool true], []) := by
  obtain ⟨L, a, r, hS, a0, a1, hr, g1⟩ := Layout_ok fu (n + 24) ls 0 (by omega) (by omega) hfu
  obtain ⟨L2, b, hR, b0, b1, g2⟩ := RightLayout_ok fu (n + 25) ls a a0 (by omega) hfu
  have g3 := LayoutLines_ev L2 hR.sm hR.sp fu (n + 23) hfu
  obtain ⟨t, c, c0, c1, g4⟩ := nearly_ok fu (n + 25) hfu ls b (layT L2) ⟨#[32, 10, 97, 115, 107, 111, 110, 101, 32, 114, 117, 108, 101]⟩ b0 (by omega) (by have := layT_sz hR.sm; omega) (by decide)
  have g5 := ReadLayout_ok fu (n + 23) t hfu
  have g6 := LayoutRead_ok fu (n + 23) t hfu
  have g7 := decides_ok fu (n + 9) hfu
  have g8 := LayoutFault_ok fu (n + 24) L hS.ok hfu
  unfold layM at *
  rw [chaselaw2_LayoutTexts_eq, g1]
  simp only [callE_some', unX_cons, dBx_box, unC_cons, dL_list, dI_int, unN_nil, unXN_nil, dA_agg, hr]
  have h1 : (∃ T, ev fu (n + 29) 7 [.agg [.list (L.asks.map askC), .list (L.rules.map ruleC)]] [] = some ([.str T, .int .i64 (layE L)], []) ∧ ((layE L = 0 ∧ ev fu (n + 29) 9 [.agg [.list (L.asks.map askC), .list (L.rules.map ruleC)]] [] = some ([.str T], [])) ∨ (¬ layE L = 0 ∧ T = ⟨#[]⟩))) := by
    by_cases h0 : layE L = 0
    · refine ⟨layT L, ?_, .inl ⟨h0, LayoutLines_ev L hS (layE_sp h0) fu (n + 23) hfu⟩⟩
      rw [h0]; exact TextLayout_ev L hS (layE_sp h0) fu (n + 23) hfu h0
    · exact ⟨⟨#[]⟩, TextLayout_no fu (n + 23) L hS.ok hfu h0, .inr ⟨h0, rfl⟩⟩
  obtain ⟨T, h1, h2⟩ := h1
  rw [h1]
  simp only [callE_some', unC_cons, dS_str, dI_int, unN_nil, unXN_nil, g8, rI_some, decide_true, Bool.not_true, cnd_false]
  have key : ∃ (X Y : MV) (i e : Int) (L3 : Lay), LayOk L3 ∧ readO t = some ([.agg [X, Y], .int .i64 i, .int .i64 e], []) ∧ (∀ K : List (List MV) → Out, dL X K = K (L3.asks.map askC)) ∧ (∀ K : List (List MV) → Out, dL Y K = K (L3.rules.map ruleC)) := by
    rcases readO_same t with ⟨i, e, h⟩ | ⟨L3, hL3, h⟩
    · exact ⟨.nil, .nil, i, e, ⟨[], []⟩, ⟨by simp, by simp, fun a ha => by cases ha⟩, h, fun _ => rfl, fun _ => rfl⟩
    · exact ⟨_, _, 0, 0, L3, hL3, h, fun _ => rfl, fun _ => rfl⟩
  obtain ⟨X, Y, i, e, L3, hL3, k1, k2, k3⟩ := key
  rw [k1] at g5 g6
  have g9 := SameLayout_same fu (n + 25) L3 hL3 hfu
  unfold layM at g9
  rcases h2 with ⟨z, h2⟩ | ⟨z, h2⟩
  · rw [decide_eq_true z, cnd_true, h2, rS_some, decide_eq_true rfl, Bool.not_true, cnd_false, cnd_false, g2]
    simp only [callE_some', unX_cons, dBx_box, unC_cons, dL_list, dI_int, unN_nil, unXN_nil, dA_agg, dRw_row, dRf_ref, g3, rS_some]
    rw [g4]
    simp only [skS_some, g5, g6, callE_some', unXN_nil, unC_cons, dA_agg, k2, k3, unN_nil, dI_int, decide_true, cnd_true, g9, rB_some, g7]
  · subst h2
    rw [decide_eq_false z, cnd_false, Bool.not_false, cnd_true, decide_eq_true rfl, Bool.not_true, cnd_false, g2]
    simp only [callE_some', unX_cons, dBx_box, unC_cons, dL_list, dI_int, unN_nil, unXN_nil, dA_agg, dRw_row, dRf_ref, g3, rS_some]
    rw [g4]
    simp only [skS_some, g5, g6, callE_some', unXN_nil, unC_cons, dA_agg, k2, k3, unN_nil, dI_int, decide_true, cnd_true, g9, rB_some, g7]
theorem LayoutTexts_spec (ls : List Int) : SpecB Tryz.prog 3 [ints ls] [] [.bool true] [] := law_spec (LayoutTexts_ok 1000000 0 ls (Nat.le_refl _))
end Go.Pv
