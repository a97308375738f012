/- Chapter 1: items; the reference's checks of them. -/
import Derived.Test.YtlfbfhgoehndpaaGreatDoorZ2
import Derived.Test.YtlfbfhgoehndpaaGreatDoorZ0
import Derived.Test.YtlfbfhgoehndpaaGreatDoorHU
import Derived.Sort.Walk0
set_option linter.unusedSimpArgs false
set_option linter.unusedVariables false
set_option maxRecDepth 100000
namespace Go.Pv
open Go Go.Proofs

structure Item where
  id : ByteArray
  cust : ByteArray
  kind : Int
  name : ByteArray
  at_ : Int
  parent : ByteArray
  text : ByteArray
def itemC (x : Item) : List MV := [.str x.id, .str x.cust, .int .i64 x.kind, .str x.name, .int .i64 x.at_, .str x.parent, .str x.text]
@[simp] theorem itemC_len (x : Item) : (itemC x).length = 7 := rfl
section
variable {α : Type}
theorem rdItem {xs : List Item} {i : Nat} (h : i < xs.length) (K : ByteArray → ByteArray → Int → ByteArray → Int → ByteArray → ByteArray → Option α) :
    rd (xs.map itemC) (i : Int) (fun e => gd (e.length = 7) (gd (0 + 7 ≤ e.length) (unC (List.take 7 (List.drop 0 e)) fun m2 c3 => (dS m2 fun x4 => (unC c3 fun m5 c6 => (dS m5 fun x7 => (unC c6 fun m8 c9 => (dI .i64 m8 fun x10 => (unC c9 fun m11 c12 => (dS m11 fun x13 => (unC c12 fun m14 c15 => (dI .i64 m14 fun x16 => (unC c15 fun m17 c18 => (dS m17 fun x19 => (unC c18 fun m20 c21 => (dS m20 fun x22 => (unN c21 (K x4 x7 x10 x13 x16 x19 x22)))))))))))))))))) =
      K xs[i].id xs[i].cust xs[i].kind xs[i].name xs[i].at_ xs[i].parent xs[i].text := by
  rw [rdm h, gd_pos (itemC_len _), gd_pos (by simp)]
  simp [itemC]
theorem rdPar {xs : List Item} {i : Nat} {x : Item} (h : xs[i]? = some x) (K : ByteArray → Option α) : rd (xs.map itemC) (i : Int) (fun e => gd (e.length = 7) (cel e 5 fun m => dS m K)) = K x.parent := by
  rw [rdn h, gd_pos (itemC_len _)]; rfl
theorem rdKnd {xs : List Item} {i : Nat} {x : Item} (h : xs[i]? = some x) (K : Int → Option α) : rd (xs.map itemC) (i : Int) (fun e => gd (e.length = 7) (cel e 2 fun m => dI .i64 m K)) = K x.kind := by
  rw [rdn h, gd_pos (itemC_len _)]
  show dI .i64 (.int .i64 x.kind) K = _
  rw [dI_int]
end
/-! ### First errors, step by step -/
theorem out_fnz (a : Int) (r : List Int) : (some ([.int .i64 (fnz (a :: r))], []) : Out) = errO a (some ([.int .i64 (fnz r)], [])) := by
  unfold errO; rw [fnz]; split <;> rfl
theorem errO_congr {a : Int} {o o' : Out} (h : a = 0 → o = o') : errO a o = errO a o' := by
  unfold errO; split
  · exact h ‹_›
  · rfl
/-! ### Strings -/
def visC (feeds : Bool) (x : Int) : Bool := !((decide (x < 32) && !(feeds && decide (x = 10))) || decide (x = 127))
def visFrom (feeds : Bool) (s : ByteArray) (i : Nat) : Nat → Bool
  | 0 => true
  | m + 1 => visC feeds (bAt s i) && visFrom feeds s (i + 1) m
def validB (s : ByteArray) : Bool := Go.Lib.validD s.data.toList
def trimB (s : ByteArray) : ByteArray := ⟨(Go.Lib.trimS s.data.toList [32]).toArray⟩
def twoB (s : ByteArray) : Bool := decide (0 ≤ Go.Lib.index s.data.toList [32, 32])
def plainS (s : ByteArray) : Bool := visFrom false s 0 s.size && (validB s && (decide (trimB s = s) && !twoB s))
def textS (s : ByteArray) : Bool := visFrom true s 0 s.size && (validB s && (decide (s = ⟨#[]⟩) || decide (bAt s (s.size - 1) = 10)))
theorem Valid_ev (fu n : Nat) (s : ByteArray) (h : s.size ≤ 9223372036854775807) : ev fu (n + 1) 98 [.str s] [] = some ([.bool (validB s)], []) := by
  have e : ev fu (n + 1) 98 [.str s] [] = validH (evs fu n) [.str s] [] := rfl
  rw [e]; exact if_pos h
theorem Repeat_ev (fu n : Nat) (s : ByteArray) (c : Nat) (h : c ≤ 9223372036854775807 ∧ s.size * c ≤ 140737488355328) : ev fu (n + 1) 50 [.str s, .int .i64 c] [] = some ([.str ⟨(Go.Lib.repeatL s.data.toList c).toArray⟩], []) := by
  have e : ev fu (n + 1) 50 [.str s, .int .i64 c] [] = repeatH (evs fu n) [.str s, .int .i64 c] [] := rfl
  rw [e]; exact if_pos ⟨by omega, by omega, by simpa using h.2⟩
theorem Idx_ev (fu n : Nat) (s c : ByteArray) (h : s.size < 4294967281) : ev fu (n + 1) 166 [.str s, .str c] [] = some ([.int .i64 (Go.Lib.index s.data.toList c.data.toList)], []) := by
  have h1 : ev fu (n + 1) 166 [.str s, .str c] [] = indexH (evs fu n) [.str s, .str c] [] := rfl
  rw [h1]; exact if_pos h
theorem Contains_ev (fu n : Nat) (s c : ByteArray) (h : s.size < 4294967281) : ev fu (n + 3) 100 [.str s, .str c] [] = some ([.bool (decide (0 ≤ Go.Lib.index s.data.toList c.data.toList))], []) := by
  rw [strings_Contains_eq, strings_Index_eq, Idx_ev fu n s c h, rI_some, rI_some]
theorem Plain_L1 (fu n : Nat) (s : ByteArray) (hs : s.size ≤ 400000) : ∀ (m i k1 : Nat), i + m = s.size → m < k1 →
    chaseref2_Plain_L1 fu (n + 3) k1 s (s.size : Nat) (i : Nat) = some ([.bool (visFrom false s i m && (validB s && (decide (trimB s = s) && !twoB s)))], [])
  | m, i, 0, hi, hk => by omega
  | 0, i, k1 + 1, hi, hk => by
    have ht : ev fu (n + 3) 99 [.str s, .str ⟨#[32]⟩] [] = some ([.str (trimB s)], []) := Trim_ev fu (n + 2) s ⟨#[32]⟩ ⟨by omega, by decide, by decide⟩
    have hc : ev fu (n + 3) 100 [.str s, .str ⟨#[32, 32]⟩] [] = some ([.bool (twoB s)], []) := Contains_ev fu n s ⟨#[32, 32]⟩ (by omega)
    rw [chaseref2_Plain_L1_eq, cnd_decide, if_neg (by omega), Valid_ev fu (n + 2) s (by omega), rB_some, ht, rS_some, hc, rB_some]
    unfold visFrom
    rw [Bool.true_and]
    cases validB s <;> cases decide (trimB s = s) <;> rfl
  | m + 1, i, k1 + 1, hi, hk => by
    rw [chaseref2_Plain_L1_eq, cnd_decide, if_pos (by omega), ixS_pos (by omega) (by omega), ixS_pos (by omega) (by omega), Int.toNat_natCast, i64s (by omega), Plain_L1 fu n s hs m (i + 1) k1 (by omega) (by omega), visFrom]
    unfold visC
    cases decide (bAt s i < 32) <;> cases decide (bAt s i = 127) <;> rfl
theorem Plain_ok (fu n : Nat) (s : ByteArray) (hs : s.size ≤ 400000) (hfu : 1000000 ≤ fu) : ev fu (n + 4) 53 [.str s] [] = some ([.bool (plainS s)], []) := by
  rw [chaseref2_Plain_eq]
  exact Plain_L1 fu n s hs s.size 0 fu (by omega) (by omega)
theorem IsText_L1 (fu n : Nat) (s : ByteArray) (hs : s.size ≤ 400000) : ∀ (m i k1 : Nat), i + m = s.size → m < k1 →
    chaseref2_IsText_L1 fu (n + 1) k1 s (s.size : Nat) (i : Nat) = some ([.bool (visFrom true s i m && (validB s && (decide (s = ⟨#[]⟩) || decide (bAt s (s.size - 1) = 10))))], [])
  | m, i, 0, hi, hk => by omega
  | 0, i, k1 + 1, hi, hk => by
    rw [chaseref2_IsText_L1_eq, cnd_decide, if_neg (by omega), Valid_ev fu n s (by omega), rB_some]
    unfold visFrom
    rw [Bool.true_and]
    cases validB s with
    | false => rfl
    | true =>
      rw [cnd_true, Bool.true_and]
      by_cases h0 : s = ⟨#[]⟩
      · rw [decide_eq_true h0]; rfl
      · have hp : 1 ≤ s.size := by
          rcases Nat.eq_zero_or_pos s.size with h | h
          · exfalso; apply h0
            apply ByteArray.ext
            exact Array.eq_empty_of_size_eq_zero h
          · exact h
        have hw : IntKind.i64.wrap ((s.size : Int) - 1) = ((s.size - 1 : Nat) : Int) := by rw [w64 (by omega) (by omega)]; omega
        rw [decide_eq_false h0, cnd_false, hw, ixS_pos (by omega) (by omega), Int.toNat_natCast, Bool.false_or]
  | m + 1, i, k1 + 1, hi, hk => by
    rw [chaseref2_IsText_L1_eq, cnd_decide, if_pos (by omega), ixS_pos (by omega) (by omega), ixS_pos (by omega) (by omega), ixS_pos (by omega) (by omega), Int.toNat_natCast, i64s (by omega), IsText_L1 fu n s hs m (i + 1) k1 (by omega) (by omega), visFrom]
    unfold visC
    cases decide (bAt s i < 32) <;> cases decide (bAt s i = 127) <;> cases decide (bAt s i = 10) <;> rfl
theorem IsText_ok (fu n : Nat) (s : ByteArray) (hs : s.size ≤ 400000) (hfu : 1000000 ≤ fu) : ev fu (n + 2) 54 [.str s] [] = some ([.bool (textS s)], []) := by
  rw [chaseref2_IsText_eq]
  exact IsText_L1 fu n s hs s.size 0 fu (by omega) (by omega)
/-! ### One item -/
def itE (x : Item) : Int :=
  fnz [if (!keyS x.id) = true then 5 else 0, if (!keyS x.cust) = true then 5 else 0, if (!inB x.kind 1 4) = true then 4 else 0, if decide ((120 : Int) < (x.name.size : Int)) = true then 2 else 0, if (!plainS x.name) = true then 3 else 0,
    if (!inB x.at_ 0 5761439) = true then 1 else 0, if (!decide (x.parent = ⟨#[]⟩) && !keyS x.parent) = true then 5 else 0, if decide (x.parent = x.id) = true then 14 else 0, if decide ((20000 : Int) < (x.text.size : Int)) = true then 2 else 0, if (!textS x.text) = true then 3 else 0]
theorem ItemFault_ok (fu n : Nat) (x : Item) (hfu : 1000000 ≤ fu) : ev fu (n + 5) 12 [.agg (itemC x)] [] = some ([.int .i64 (itE x)], []) := by
  unfold itE itemC
  rw [chaseref2_ItemFault_eq, RKey_ok fu (n + 1), rB_some, cnd_errc _ _ (by decide), out_fnz]
  refine errO_congr fun _ => ?_
  rw [RKey_ok fu (n + 1), rB_some, cnd_errc _ _ (by decide), out_fnz]
  refine errO_congr fun _ => ?_
  rw [in_ok, rB_some, cnd_errc _ _ (by decide), out_fnz]
  refine errO_congr fun _ => ?_
  rw [cnd_errc _ _ (by decide), out_fnz]
  refine errO_congr fun h => ?_
  have hn : x.name.size ≤ 120 := by
    by_cases h1 : (120 : Int) < (x.name.size : Int)
    · rw [decide_eq_true h1] at h; exact absurd h (by decide)
    · omega
  rw [Plain_ok fu n x.name (by omega) hfu, rB_some, cnd_errc _ _ (by decide), out_fnz]
  refine errO_congr fun _ => ?_
  rw [in_ok, rB_some, cnd_errc _ _ (by decide), out_fnz]
  refine errO_congr fun _ => ?_
  have rest : (cnd (decide (x.parent = x.id)) (some ([.int .i64 (14 : Int)], [])) (cnd (decide ((20000 : Int) < (x.text.size : Int))) (some ([.int .i64 (2 : Int)], [])) (rB (ev fu (n + 4) 54 [.str x.text] []) fun x7 => (cnd (!x7) (some ([.int .i64 (3 : Int)], [])) (some ([.int .i64 (0 : Int)], []))))) : Out) = some ([.int .i64 (fnz [if decide (x.parent = x.id) = true then 14 else 0, if decide ((20000 : Int) < (x.text.size : Int)) = true then 2 else 0, if (!textS x.text) = true then 3 else 0])], []) := by
    rw [cnd_errc _ _ (by decide), out_fnz]
    refine errO_congr fun _ => ?_
    rw [cnd_errc _ _ (by decide), out_fnz]
    refine errO_congr fun h => ?_
    have hn : x.text.size ≤ 20000 := by
      by_cases h1 : (20000 : Int) < (x.text.size : Int)
      · rw [decide_eq_true h1] at h; exact absurd h (by decide)
      · omega
    rw [IsText_ok fu (n + 2) x.text (by omega) hfu, rB_some, cnd_errc _ _ (by decide), out_fnz]; rfl
  rw [RKey_ok fu (n + 1), rB_some, rest, out_fnz (if (!decide (x.parent = ⟨#[]⟩) && !keyS x.parent) = true then 5 else 0)]
  cases decide (x.parent = (⟨#[]⟩ : ByteArray)) with
  | true => rw [Bool.not_true, cnd_false, Bool.false_and]; rfl
  | false => rw [Bool.not_false, cnd_true, Bool.true_and, cnd_errc _ _ (by decide)]
/-! ### Places -/
def plc (l : List Item) (id : ByteArray) : Int := fIx (fun x => decide (x.id = id)) 0 l
theorem IndexFuncI_ok (fu n : Nat) (g : FuncId) (c : List MV) (p : Item → Bool) (hc : npL c = true) (hf : ∀ a, ev fu n g ([.agg (itemC a)] ++ c) [] = some ([.bool (p a)], [])) (l : List Item) (hl : l.length ≤ 400000) (hfu : 1000000 ≤ fu) :
    ev fu (n + 1) 106 [.list (l.map itemC), .fn g c] [] = some ([.int .i64 (fIx p 0 l)], []) := by
  have h := find_loop l p (fun k i => slices_IndexFunc_Sapi_Item_api_Item_L1 fu n k (l.map itemC) g c (l.length : Nat) i)
    (fun k => by rw [slices_IndexFunc_Sapi_Item_api_Item_L1_eq, cnd_decide, if_neg (by omega)])
    (fun k i hi => by
      have h1 := hf l[i]
      have h2 : npL ([.agg (itemC l[i])] ++ c) = true := by rw [npL_append, hc]; rfl
      unfold itemC at h1 h2
      rw [slices_IndexFunc_Sapi_Item_api_Item_L1_eq, cnd_decide, if_pos (by omega), rdItem hi, npG_pos h2, h1, rB_some, i64s (by omega)]
      cases p l[i] <;> rfl) l.length 0 fu (by omega) (by omega)
  rw [slices_IndexFunc_Sapi_Item_api_Item_eq, List.length_map]
  exact h
theorem place_ok (fu n : Nat) (l : List Item) (id : ByteArray) (hl : l.length ≤ 400000) (hfu : 1000000 ≤ fu) : ev fu (n + 3) 67 [.list (l.map itemC), .str id] [] = some ([.int .i64 (plc l id)], []) := by
  rw [chaseref2_place_eq, IndexFuncI_ok fu (n + 1) 107 _ (fun x => decide (x.id = id)) rfl (fun a => by
    show ev fu (n + 1) 107 [.agg (itemC a), .cptr [.str id] 0] [] = _
    unfold itemC
    rw [chaseref2_place_1_eq]; rfl) l hl hfu, rI_some]; rfl
theorem plc_range (l : List Item) (id : ByteArray) : plc l id = -1 ∨ ∃ (k : Nat) (y : Item), plc l id = k ∧ l[k]? = some y ∧ y.id = id := by
  rcases fIx_find (fun x : Item => decide (x.id = id)) l 0 with ⟨h, _⟩ | ⟨k, x, h1, h2, h3⟩
  · exact .inl h
  · refine .inr ⟨k, x, by unfold plc; rw [h1]; simp, h2, ?_⟩
    have := List.find?_some h3
    simpa using this
/-! ### What is above -/
def abvF (l : List Item) (on : Bool) : Nat → List Int → Int → List Int × Bool
  | 0, out, _ => (out, true)
  | m + 1, out, k => if (decide (0 ≤ k) && on) = true then (if l.length < (out ++ [k]).length then (out ++ [k], false) else match l[k.toNat]? with
    | some y => if y.parent = ⟨#[]⟩ then (out ++ [k], true) else abvF l on m (out ++ [k]) (plc l y.parent)
    | none => (out ++ [k], true)) else (out, true)
def abv (l : List Item) (i : Nat) : List Int × Bool := match l[i]? with
  | some x => abvF l (!decide (x.parent = ⟨#[]⟩)) (l.length + 1) [] (plc l x.parent)
  | none => ([], true)
theorem abvF_len (l : List Item) (on : Bool) : ∀ (m : Nat) (out : List Int) (k : Int), (abvF l on m out k).1.length ≤ out.length + m
  | 0, out, k => by simp [abvF]
  | m + 1, out, k => by
    rw [abvF]
    split
    · split
      · simp
      · split
        · split
          · simp
          · have := abvF_len l on m (out ++ [k]) (plc l ‹Item›.parent)
            simp at this; omega
        · simp
    · simp
theorem abv_len (l : List Item) (i : Nat) : (abv l i).1.length ≤ l.length + 1 := by
  unfold abv
  split
  · have := abvF_len l (!decide (‹Item›.parent = ⟨#[]⟩)) (l.length + 1) [] (plc l ‹Item›.parent)
    simpa using this
  · simp
theorem above_L1 (fu n : Nat) (l : List Item) (hl : l.length ≤ 200000) (hfu : 1000000 ≤ fu) (i : Nat) (x : Item) (hx : l[i]? = some x) : ∀ (m k1 : Nat) (out : List Int) (k : Int), out.length + (m + 1) = l.length + 1 → m < k1 → (k = -1 ∨ ∃ (j : Nat) (y : Item), k = j ∧ l[j]? = some y) →
    chaseref2_above_L1 fu (n + 3) (k1 + 1) (l.map itemC) (i : Nat) (out.map i1) k = some ([.list ((abvF l (!decide (x.parent = ⟨#[]⟩)) (m + 1) out k).1.map i1), .bool (abvF l (!decide (x.parent = ⟨#[]⟩)) (m + 1) out k).2], []) := by
  intro m
  induction m with
  | zero =>
    intro k1 out k ho hk hr
    obtain ⟨k1, rfl⟩ : ∃ q, k1 = q + 1 := ⟨k1 - 1, by omega⟩
    rw [chaseref2_above_L1_eq, rdPar hx, abvF]
    rcases hr with rfl | ⟨j, y, rfl, hy⟩
    · rw [cnd_decide, if_neg (by decide), chaseref2_above_J1_eq, cnd_false]; rfl
    · rw [cnd_decide, if_pos (by omega), chaseref2_above_J1_eq, decide_eq_true (show (0 : Int) ≤ (j : Int) by omega), Bool.true_and]
      have e : out.map i1 ++ [[.int .i64 (j : Int)]] = (out ++ [(j : Int)]).map i1 := by rw [List.map_append]; rfl
      cases !decide (x.parent = (⟨#[]⟩ : ByteArray)) with
      | false => rfl
      | true =>
        rw [cnd_true, gL_pos (by simp; omega), e, cnd_decide, if_pos (by simp; omega), if_pos rfl, if_pos (by simp; omega)]
  | succ m ih =>
    intro k1 out k ho hk hr
    obtain ⟨k1, rfl⟩ : ∃ q, k1 = q + 1 := ⟨k1 - 1, by omega⟩
    rw [chaseref2_above_L1_eq, rdPar hx, abvF]
    rcases hr with rfl | ⟨j, y, rfl, hy⟩
    · rw [cnd_decide, if_neg (by decide), chaseref2_above_J1_eq, cnd_false]; rfl
    · rw [cnd_decide, if_pos (by omega), chaseref2_above_J1_eq, decide_eq_true (show (0 : Int) ≤ (j : Int) by omega), Bool.true_and]
      have e : out.map i1 ++ [[.int .i64 (j : Int)]] = (out ++ [(j : Int)]).map i1 := by rw [List.map_append]; rfl
      have ih' := ih k1 (out ++ [(j : Int)]) (plc l y.parent) (by simp; omega) (by omega) (by
        rcases plc_range l y.parent with h | ⟨q, z, h1, h2, _⟩
        · exact .inl h
        · exact .inr ⟨q, z, h1, h2⟩)
      cases hp : !decide (x.parent = (⟨#[]⟩ : ByteArray)) with
      | false => rfl
      | true =>
        rw [hp] at ih'
        rw [cnd_true, gL_pos (by simp; omega), e, cnd_decide, if_neg (by simp; omega), if_pos rfl, if_neg (by simp; omega), rdPar hy, rdPar hy, place_ok fu n l y.parent (by omega) hfu, rI_some, cnd_decide, Int.toNat_natCast, hy]
        simp only
        by_cases hq : y.parent = ⟨#[]⟩
        · rw [if_pos hq, if_pos hq]
        · rw [if_neg hq, if_neg hq]; exact ih'
theorem above_ok (fu n : Nat) (l : List Item) (hl : l.length ≤ 200000) (hfu : 1000000 ≤ fu) (i : Nat) (hi : i < l.length) : ev fu (n + 4) 82 [.list (l.map itemC), .int .i64 (i : Nat)] [] = some ([.list ((abv l i).1.map i1), .bool (abv l i).2], []) := by
  have hx : l[i]? = some l[i] := List.getElem?_eq_getElem hi
  obtain ⟨k1, rfl⟩ : ∃ q, fu = q + 1 := ⟨fu - 1, by omega⟩
  have h := above_L1 (k1 + 1) n l hl hfu i l[i] hx l.length k1 [] (plc l l[i].parent) (by simp) (by omega) (by
    rcases plc_range l l[i].parent with h | ⟨q, z, h1, h2, _⟩
    · exact .inl h
    · exact .inr ⟨q, z, h1, h2⟩)
  rw [chaseref2_above_eq, rdPar hx, place_ok (k1 + 1) n l _ (by omega) hfu, rI_some]
  unfold abv
  rw [hx]
  exact h
end Go.Pv
/- Chapter 1: items together; the reference's checks of them. -/
namespace Go.Pv
open Go Go.Proofs

def iIx (x : Int) (l : List Int) : Int := fIx (fun y => decide (x = y)) 0 l
theorem IndexI_ok (fu n : Nat) (l : List Int) (x : Int) (hl : l.length ≤ 400000) (hfu : 1000000 ≤ fu) : ev fu (n + 1) 167 [.list (l.map i1), .int .i64 x] [] = some ([.int .i64 (iIx x l)], []) := by
  have h := find_loop l (fun y => decide (x = y)) (fun k i => slices_Index_Sint_int_L1 fu n k (l.map i1) x (l.length : Nat) i)
    (fun k => by rw [slices_Index_Sint_int_L1_eq, cnd_decide, if_neg (by omega)])
    (fun k i hi => by
      rw [slices_Index_Sint_int_L1_eq, cnd_decide, if_pos (by omega), rdm hi, gd_pos (i1_len _)]
      simp only [i1, cel_zero, dI_int]
      rw [i64s (by omega)]
      cases decide (x = l[i]) <;> rfl) l.length 0 fu (by omega) (by omega)
  rw [slices_Index_Sint_int_eq, List.length_map]
  exact h
theorem ContainsI_ok (fu n : Nat) (l : List Int) (x : Int) (hl : l.length ≤ 400000) (hfu : 1000000 ≤ fu) : ev fu (n + 2) 136 [.list (l.map i1), .int .i64 x] [] = some ([.bool (l.any fun y => decide (x = y))], []) := by
  rw [slices_Contains_Sint_int_eq, IndexI_ok fu n l x hl hfu, rI_some]
  unfold iIx
  rw [fIx_any]
def retB (l : List Item) (i : Nat) : Bool := (abv l i).1.any fun y => decide ((i : Int) = y)
theorem returns_ok (fu n : Nat) (l : List Item) (hl : l.length ≤ 200000) (hfu : 1000000 ≤ fu) (i : Nat) (hi : i < l.length) : ev fu (n + 5) 108 [.list (l.map itemC), .int .i64 (i : Nat)] [] = some ([.bool (retB l i)], []) := by
  have := abv_len l i
  rw [chaseref2_returns_eq, above_ok fu n l hl hfu i hi]
  simp only [callE_some', unXN_nil, unC_cons, dL_list, dB_bool, unN_nil]
  rw [ContainsI_ok fu (n + 2) _ _ (by omega) hfu, rB_some]; rfl
/-- A parent of a wrong kind. -/
def parK (l : List Item) (x : Item) : Int := match l[(plc l x.parent).toNat]? with
  | some y => if (!decide (x.parent = ⟨#[]⟩) && (decide (0 ≤ plc l x.parent) && (!decide (y.kind = 1) && !decide (y.kind = 3)))) = true then 16 else 0
  | none => 0
def treeE (l : List Item) : Int := fnz [(errL (σ := Unit) (fun i _ _ => if retB l i = true then 14 else 0) (fun _ s _ => s) 0 () l).1, (errL (σ := Unit) (fun i _ x => fnz [parK l x, if decide ((4 : Int) < ((abv l i).1.length : Int)) = true then 2 else 0]) (fun _ s _ => s) 0 () l).1]
theorem treeFault_L2 (fu n : Nat) (l : List Item) (hl : l.length ≤ 200000) (hfu : 1000000 ≤ fu) : chaseref2_treeFault_L2 fu (n + 5) fu (l.map itemC) (l.length : Nat) (0 : Int) = some ([.int .i64 (errL (σ := Unit) (fun i _ x => fnz [parK l x, if decide ((4 : Int) < ((abv l i).1.length : Int)) = true then 2 else 0]) (fun _ s _ => s) 0 () l).1], []) := by
  have h := err_loop l (fun k i (_ : Unit) => chaseref2_treeFault_L2 fu (n + 5) k (l.map itemC) (l.length : Nat) i) (fun i _ x => fnz [parK l x, if decide ((4 : Int) < ((abv l i).1.length : Int)) = true then 2 else 0]) (fun _ s _ => s) (fun _ => some ([.int .i64 0], []))
    (fun k s => by rw [chaseref2_treeFault_L2_eq, cnd_decide, if_neg (by omega)])
    (fun k i s hi => by
      have hx : l[i]? = some l[i] := List.getElem?_eq_getElem hi
      have ha := above_ok fu (n + 1) l hl hfu i hi
      rw [chaseref2_treeFault_L2_eq, cnd_decide, if_pos (by omega), rdPar hx, place_ok fu (n + 2) l _ (by omega) hfu, rI_some, rdPar hx, ha, i64s (by omega)]
      simp only [callE_some', unXN_nil, unC_cons, dL_list, dB_bool, unN_nil, List.length_map]
      rw [cnd_errc _ _ (show (2 : Int) ≠ 0 by decide), ← errO_errO]
      generalize errO _ (chaseref2_treeFault_L2 fu (n + 5) k (l.map itemC) (l.length : Nat) ((i + 1 : Nat) : Int)) = o
      unfold parK
      rcases plc_range l l[i].parent with h | ⟨q, y, h1, h2, _⟩
      · rw [h]
        have e : ((match l[(-1 : Int).toNat]? with | some y => if (!decide (l[i].parent = ⟨#[]⟩) && (decide ((0 : Int) ≤ -1) && (!decide (y.kind = 1) && !decide (y.kind = 3)))) = true then 16 else 0 | none => 0) : Int) = 0 := by
          split
          · rw [decide_eq_false (show ¬ (0 : Int) ≤ -1 by decide), Bool.false_and, Bool.and_false]; rfl
          · rfl
        rw [e, errO_0]
        cases decide (l[i].parent = (⟨#[]⟩ : ByteArray)) <;> rfl
      · rw [h1, Int.toNat_natCast, h2, rdKnd h2, rdKnd h2, decide_eq_true (show (0 : Int) ≤ (q : Int) by omega)]
        simp only
        cases decide (l[i].parent = (⟨#[]⟩ : ByteArray)) <;> cases decide (y.kind = 1) <;> cases decide (y.kind = 3) <;> rfl) l.length 0 fu () (by omega) (by omega)
  rw [List.drop_zero, errO_fin] at h
  exact h
theorem treeFault_ok (fu n : Nat) (l : List Item) (hl : l.length ≤ 200000) (hfu : 1000000 ≤ fu) : ev fu (n + 6) 68 [.list (l.map itemC)] [] = some ([.int .i64 (treeE l)], []) := by
  have h := err_loop l (fun k i (_ : Unit) => chaseref2_treeFault_L1 fu (n + 5) k (l.map itemC) (l.length : Nat) i) (fun i _ _ => if retB l i = true then 14 else 0) (fun _ s _ => s) (fun _ => chaseref2_treeFault_L2 fu (n + 5) fu (l.map itemC) (l.length : Nat) (0 : Int))
    (fun k s => by rw [chaseref2_treeFault_L1_eq, cnd_decide, if_neg (by omega), List.length_map])
    (fun k i s hi => by
      rw [chaseref2_treeFault_L1_eq, cnd_decide, if_pos (by omega), returns_ok fu n l hl hfu i hi, rB_some, cnd_errc _ _ (by decide), i64s (by omega)]) l.length 0 fu () (by omega) (by omega)
  rw [List.drop_zero, treeFault_L2 fu n l hl hfu] at h
  rw [chaseref2_treeFault_eq, List.length_map]
  unfold treeE
  rw [out_fnz, out_fnz]
  refine h.trans (errO_congr fun _ => ?_)
  exact (errO_fin _).symm
/-- The errors of items. -/
def itemsL (l : List Item) : Int := (errL (fun _ last x => fnz [itE x, if (sless x.id last || decide (x.id = last)) = true then 7 else 0]) (fun _ _ x => x.id) 0 (⟨#[]⟩ : ByteArray) l).1
def parL (l : List Item) : Int := (errL (σ := Unit) (fun _ _ x => if (!decide (x.parent = ⟨#[]⟩) && decide (plc l x.parent < 0)) = true then 8 else 0) (fun _ s _ => s) 0 () l).1
def itemsE (l : List Item) : Int := fnz [if decide ((2000 : Int) < (l.length : Int)) = true then 2 else 0, itemsL l, parL l, treeE l]
theorem ItemsFault_L2 (fu n : Nat) (l : List Item) (hl : l.length ≤ 200000) (hfu : 1000000 ≤ fu) : chaseref2_ItemsFault_L2 fu (n + 6) fu (l.map itemC) (l.map itemC) (l.length : Nat) (0 : Int) = some ([.int .i64 (fnz [parL l, treeE l])], []) := by
  have h := err_loop l (fun k i (_ : Unit) => chaseref2_ItemsFault_L2 fu (n + 6) k (l.map itemC) (l.map itemC) (l.length : Nat) i) (fun _ _ x => if (!decide (x.parent = ⟨#[]⟩) && decide (plc l x.parent < 0)) = true then 8 else 0) (fun _ s _ => s) (fun _ => some ([.int .i64 (treeE l)], []))
    (fun k s => by rw [chaseref2_ItemsFault_L2_eq, cnd_decide, if_neg (by omega), treeFault_ok fu n l hl hfu, rI_some])
    (fun k i s hi => by
      rw [chaseref2_ItemsFault_L2_eq, cnd_decide, if_pos (by omega), rdItem hi, place_ok fu (n + 3) l _ (by omega) hfu, rI_some, i64s (by omega), cnd_errc _ _ (show (8 : Int) ≠ 0 by decide)]
      cases decide (l[i].parent = (⟨#[]⟩ : ByteArray)) <;> rfl) l.length 0 fu () (by omega) (by omega)
  rw [List.drop_zero] at h
  rw [out_fnz, out_fnz]
  refine h.trans (errO_congr fun _ => ?_)
  exact (errO_fin _).symm
theorem ItemsFault_ok (fu n : Nat) (l : List Item) (hfu : 1000000 ≤ fu) : ev fu (n + 7) 16 [.list (l.map itemC)] [] = some ([.int .i64 (itemsE l)], []) := by
  rw [chaseref2_ItemsFault_eq, List.length_map, cnd_errc _ _ (show (2 : Int) ≠ 0 by decide)]
  unfold itemsE
  rw [out_fnz]
  refine errO_congr fun h0 => ?_
  have hl : l.length ≤ 2000 := by
    by_cases h1 : (2000 : Int) < (l.length : Int)
    · rw [decide_eq_true h1] at h0; exact absurd h0 (by decide)
    · omega
  have h := err_loop l (fun k i (s : ByteArray) => chaseref2_ItemsFault_L1 fu (n + 6) k (l.map itemC) s (l.map itemC) (l.length : Nat) i) (fun _ last x => fnz [itE x, if (sless x.id last || decide (x.id = last)) = true then 7 else 0]) (fun _ _ x => x.id) (fun _ => chaseref2_ItemsFault_L2 fu (n + 6) fu (l.map itemC) (l.map itemC) (l.length : Nat) (0 : Int))
    (fun k s => by rw [chaseref2_ItemsFault_L1_eq, cnd_decide, if_neg (by omega), List.length_map])
    (fun k i s hi => by
      have hx := ItemFault_ok fu (n + 1) l[i] hfu
      unfold itemC at hx
      rw [chaseref2_ItemsFault_L1_eq, cnd_decide, if_pos (by omega), rdItem hi, hx, rI_some, cnd_err, cnd_errc _ _ (show (7 : Int) ≠ 0 by decide), errO_errO, i64s (by omega)]) l.length 0 fu ⟨#[]⟩ (by omega) (by omega)
  rw [List.drop_zero, ItemsFault_L2 fu n l (by omega) hfu] at h
  refine h.trans ?_
  rw [out_fnz (itemsL l)]; rfl
end Go.Pv
/- Chapter 1: items that streams make. -/
namespace Go.Pv
open Go Go.Proofs

theorem enc4 (i : Int) : (Utf8.encode i).size ≤ 4 := by
  unfold Utf8.encode
  simp only
  repeat' split
  all_goals simp [ByteArray.size]
/-- Items of streams are not long. -/
structure ItS (x : Item) : Prop where
  id : x.id.size ≤ 10
  cust : x.cust.size ≤ 10
  name : x.name.size ≤ 200
  parent : x.parent.size ≤ 10
  text : x.text.size ≤ 30000
theorem itemId_ok (fu n : Nat) (i : Int) : ∃ s : ByteArray, s.size ≤ 10 ∧ ev fu (n + 1) 47 [.int .i64 i] [] = some ([.str s], []) := by
  rw [chasemake_itemId_eq]
  have h1 := enc4 (IntKind.i32.wrap (IntKind.i64.wrap ((97 : Int) + (Int.tmod (IntKind.i64.wrap (Int.tdiv i (26 : Int))) (26 : Int)))))
  have h2 := enc4 (IntKind.i32.wrap (IntKind.i64.wrap ((97 : Int) + (Int.tmod i (26 : Int)))))
  generalize Utf8.encode (IntKind.i32.wrap (IntKind.i64.wrap ((97 : Int) + (Int.tmod (IntKind.i64.wrap (Int.tdiv i (26 : Int))) (26 : Int))))) = u at *
  generalize Utf8.encode (IntKind.i32.wrap (IntKind.i64.wrap ((97 : Int) + (Int.tmod i (26 : Int))))) = v at *
  have h0 : (⟨#[105]⟩ : ByteArray).size = 1 := rfl
  have h3 : ((⟨#[105]⟩ : ByteArray) ++ u).size = 1 + u.size := by rw [ByteArray.size_append, h0]
  refine ⟨((⟨#[105]⟩ : ByteArray) ++ u) ++ v, by rw [ByteArray.size_append]; omega, ?_⟩
  rw [gd_pos (by decide), gd_pos (by decide), stG_pos (by omega), gd_pos (by decide), stG_pos (by omega)]
def words10 : List ByteArray := [⟨#[100, 101, 97, 108]⟩, ⟨#[68, 101, 97, 108]⟩, ⟨#[115, 105, 103, 110]⟩, ⟨#[115, 105, 103, 110, 101, 100]⟩, ⟨#[116, 104, 101]⟩, ⟨#[102, 114, 105, 100, 97, 121]⟩, ⟨#[99, 111, 110, 116, 114, 97, 99, 116]⟩, ⟨#[120, 49]⟩, ⟨#[99, 97, 102, 195, 169]⟩, ⟨#[97, 110, 100]⟩]
theorem ItemText_L2 (fu n k1 : Nat) (ls : List Int) (N : Nat) (hN : N ≤ 6) (v7 v8 : Int) : ∀ (m i k : Nat) (s : ByteArray) (at_ : Int), i + m = N → m < k → 0 ≤ at_ → at_ + 2 * m < 4000000000000000000 → s.size + 20 * m ≤ 100000 →
    ∃ s' a, s'.size ≤ s.size + 20 * m + 1 ∧ at_ ≤ a ∧ a ≤ at_ + 2 * m ∧ chasemake_Stream_ItemText_L2 fu (n + 3) k1 k s v7 v8 (N : Nat) (i : Nat) (ls.map i1) at_ = chasemake_Stream_ItemText_L1 fu (n + 3) k1 s' v7 (IntKind.i64.wrap (v8 + 1)) (ls.map i1) a
  | m, i, 0, s, at_, hi, hk, h0, h1, hs => by omega
  | 0, i, k + 1, s, at_, hi, hk, h0, h1, hs => by
    refine ⟨s ++ ⟨#[10]⟩, at_, by rw [ByteArray.size_append]; show _ + 1 ≤ _; omega, by omega, by omega, ?_⟩
    rw [chasemake_Stream_ItemText_L2_eq, cnd_decide, if_neg (by omega), stG_pos (by show _ + 1 ≤ _; omega)]
  | m + 1, i, k + 1, s, at_, hi, hk, h0, h1, hs => by
    rw [chasemake_Stream_ItemText_L2_eq, cnd_decide, if_pos (by omega), cnd_decide]
    by_cases hp : (0 : Int) < (i : Int)
    · obtain ⟨x, hx, g1⟩ := some10_ok fu n ls at_ [[.str ⟨#[32]⟩], [.str ⟨#[32]⟩], [.str ⟨#[32]⟩], [.str ⟨#[44, 32]⟩], [.str ⟨#[45]⟩]] [⟨#[32]⟩, ⟨#[32]⟩, ⟨#[32]⟩, ⟨#[44, 32]⟩, ⟨#[45]⟩] rfl (by omega) (by omega) (by simp) (by simp)
      obtain ⟨y, hy, g2⟩ := some10_ok fu n ls (at_ + 1) (strs words10) words10 rfl (by omega) (by omega) (by decide) (by decide)
      have zx : x.size ≤ 10 := sz_mem hx rfl
      have zy : y.size ≤ 10 := sz_mem hy rfl
      have g2' : ev fu (n + 3) 46 [.ptr 0 0, .list ([[.str (⟨#[100, 101, 97, 108]⟩ : ByteArray)], [.str (⟨#[68, 101, 97, 108]⟩ : ByteArray)], [.str (⟨#[115, 105, 103, 110]⟩ : ByteArray)], [.str (⟨#[115, 105, 103, 110, 101, 100]⟩ : ByteArray)], [.str (⟨#[116, 104, 101]⟩ : ByteArray)], [.str (⟨#[102, 114, 105, 100, 97, 121]⟩ : ByteArray)], [.str (⟨#[99, 111, 110, 116, 114, 97, 99, 116]⟩ : ByteArray)], [.str (⟨#[120, 49]⟩ : ByteArray)], [.str (⟨#[99, 97, 102, 195, 169]⟩ : ByteArray)], [.str (⟨#[97, 110, 100]⟩ : ByteArray)]] : List (List MV))] (sb ls (at_ + 1)) = some ([.str y], sb ls (at_ + 1 + 1)) := g2
      obtain ⟨s', a, q1, q2, q3, g⟩ := ItemText_L2 fu n k1 ls N hN v7 v8 m (i + 1) k ((s ++ x) ++ y) (at_ + 1 + 1) (by omega) (by omega) (by omega) (by omega) (by rw [ByteArray.size_append, ByteArray.size_append]; omega)
      refine ⟨s', a, by rw [ByteArray.size_append, ByteArray.size_append] at q1; omega, by omega, by omega, ?_⟩
      rw [if_pos hp, g1, skS_some, stG_pos (by omega), g2', skS_some, stG_pos (by rw [ByteArray.size_append]; omega), i64s (by omega)]
      exact g
    · obtain ⟨y, hy, g2⟩ := some10_ok fu n ls at_ (strs words10) words10 rfl (by omega) (by omega) (by decide) (by decide)
      have zy : y.size ≤ 10 := sz_mem hy rfl
      have g2' : ev fu (n + 3) 46 [.ptr 0 0, .list ([[.str (⟨#[100, 101, 97, 108]⟩ : ByteArray)], [.str (⟨#[68, 101, 97, 108]⟩ : ByteArray)], [.str (⟨#[115, 105, 103, 110]⟩ : ByteArray)], [.str (⟨#[115, 105, 103, 110, 101, 100]⟩ : ByteArray)], [.str (⟨#[116, 104, 101]⟩ : ByteArray)], [.str (⟨#[102, 114, 105, 100, 97, 121]⟩ : ByteArray)], [.str (⟨#[99, 111, 110, 116, 114, 97, 99, 116]⟩ : ByteArray)], [.str (⟨#[120, 49]⟩ : ByteArray)], [.str (⟨#[99, 97, 102, 195, 169]⟩ : ByteArray)], [.str (⟨#[97, 110, 100]⟩ : ByteArray)]] : List (List MV))] (sb ls at_) = some ([.str y], sb ls (at_ + 1)) := g2
      obtain ⟨s', a, q1, q2, q3, g⟩ := ItemText_L2 fu n k1 ls N hN v7 v8 m (i + 1) k (s ++ y) (at_ + 1) (by omega) (by omega) (by omega) (by omega) (by rw [ByteArray.size_append]; omega)
      refine ⟨s', a, by rw [ByteArray.size_append] at q1; omega, by omega, by omega, ?_⟩
      rw [if_neg hp, g2', skS_some, stG_pos (by omega), i64s (by omega)]
      exact g
theorem ItemText_L1 (fu n : Nat) (hfu : 1000000 ≤ fu) (ls : List Int) (N : Nat) (hN : N ≤ 3) : ∀ (m i k : Nat) (s : ByteArray) (at_ : Int), i + m = N → m < k → 0 ≤ at_ → at_ + 13 * m < 3000000000000000000 → s.size ≤ 130 * i →
    ∃ s' a, s'.size ≤ 400 ∧ at_ ≤ a ∧ a ≤ at_ + 13 * m ∧ chasemake_Stream_ItemText_L1 fu (n + 3) k s (N : Nat) (i : Nat) (ls.map i1) at_ = some ([.str s'], sb ls a)
  | m, i, 0, s, at_, hi, hk, h0, h1, hs => by omega
  | 0, i, k + 1, s, at_, hi, hk, h0, h1, hs => by
    rw [chasemake_Stream_ItemText_L1_eq, cnd_decide, if_neg (by omega)]
    exact ⟨s, at_, by omega, by omega, by omega, rfl⟩
  | m + 1, i, k + 1, s, at_, hi, hk, h0, h1, hs => by
    obtain ⟨c, hc, g1⟩ := Range_ok fu n ls at_ 0 6 (by omega) (by omega) (by omega) (by omega) (by omega)
    obtain ⟨C, rfl⟩ : ∃ C : Nat, c = C := ⟨c.toNat, by omega⟩
    obtain ⟨s1, a1, q1, q2, q3, g2⟩ := ItemText_L2 fu n k ls C (by omega) (N : Nat) (i : Nat) C 0 fu s (at_ + 1) (by omega) (by omega) (by omega) (by omega) (by omega)
    obtain ⟨s2, a2, r1, r2, r3, g3⟩ := ItemText_L1 fu n hfu ls N hN m (i + 1) k s1 a1 (by omega) (by omega) (by omega) (by omega) (by omega)
    refine ⟨s2, a2, r1, by omega, by omega, ?_⟩
    rw [i64s (by omega)] at g2
    rw [chasemake_Stream_ItemText_L1_eq, cnd_decide, if_pos (by omega), g1, skI_some]
    exact g2.trans g3
theorem ItemText_ok (fu n : Nat) (hfu : 1000000 ≤ fu) (ls : List Int) (at_ : Int) (h0 : 0 ≤ at_) (h1 : at_ < 2000000000000000000) :
    ∃ s a, s.size ≤ 400 ∧ at_ ≤ a ∧ a ≤ at_ + 50 ∧ ev fu (n + 4) 49 [.ptr 0 0] (sb ls at_) = some ([.str s], sb ls a) := by
  obtain ⟨x, hx, g⟩ := Pick_okL fu n ls at_ [[.int .i64 0], [.int .i64 1], [.int .i64 1], [.int .i64 2], [.int .i64 3]] [0, 1, 1, 2, 3] rfl h0 (by omega) (by simp) (by simp)
  have hx' : 0 ≤ x ∧ x ≤ 3 := by simp at hx; omega
  obtain ⟨N, rfl⟩ : ∃ N : Nat, x = N := ⟨x.toNat, by omega⟩
  obtain ⟨s, a, q1, q2, q3, g2⟩ := ItemText_L1 fu n hfu ls N (by omega) N 0 fu ⟨#[]⟩ (at_ + 1) (by omega) (by omega) (by omega) (by omega) (by decide)
  refine ⟨s, a, q1, by omega, by omega, ?_⟩
  rw [chasemake_Stream_ItemText_eq, g, skI_some]
  exact g2
theorem rep_sz (c : Nat) : (⟨(Go.Lib.repeatL (⟨#[97]⟩ : ByteArray).data.toList c).toArray⟩ : ByteArray).size = c := by
  show (Go.Lib.repeatL [97] c).toArray.size = c
  rw [List.size_toArray, Go.Lib.repeatL_length]; simp
theorem Item_ok (fu n : Nat) (hfu : 1000000 ≤ fu) (ls : List Int) (at_ : Int) (id : ByteArray) (hid : id.size ≤ 10) (h0 : 0 ≤ at_) (h1 : at_ < 1000000000000000000) :
    ∃ x a, ItS x ∧ 0 ≤ a ∧ a ≤ at_ + 120 ∧ ev fu (n + 5) 10 [.ptr 0 0, .str id] (sb ls at_) = some ([.agg (itemC x)], sb ls a) := by
  have ebe : ByteArray.empty = (⟨#[]⟩ : ByteArray) := by kernel_rfl
  obtain ⟨x5, q5, g5⟩ := some10_ok fu (n + 1) ls at_ [[.str ⟨#[97, 110, 110]⟩], [.str ⟨#[98, 111, 98]⟩], [.str ⟨#[99, 105, 100]⟩]] [⟨#[97, 110, 110]⟩, ⟨#[98, 111, 98]⟩, ⟨#[99, 105, 100]⟩] rfl (by omega) (by omega) (by simp) (by simp)
  obtain ⟨x10, q10, g10⟩ := Pick_okL fu (n + 1) ls (at_ + 1) [[.int .i64 1], [.int .i64 1], [.int .i64 1], [.int .i64 2], [.int .i64 3], [.int .i64 3], [.int .i64 4]] [1, 1, 1, 2, 3, 3, 4] rfl (by omega) (by omega) (by simp) (by simp)
  obtain ⟨x15, q15, g15⟩ := some10_ok fu (n + 1) ls (at_ + 1 + 1) [[.str ⟨#[]⟩], [.str ⟨#[109, 101, 109, 111]⟩], [.str ⟨#[84, 104, 101, 32, 100, 101, 97, 108]⟩], [.str ⟨#[120, 45, 49, 46, 116, 120, 116]⟩]] [⟨#[]⟩, ⟨#[109, 101, 109, 111]⟩, ⟨#[84, 104, 101, 32, 100, 101, 97, 108]⟩, ⟨#[120, 45, 49, 46, 116, 120, 116]⟩] rfl (by omega) (by omega) (by simp) (by simp)
  obtain ⟨x20, q20, g20⟩ := Pick_okL fu (n + 1) ls (at_ + 1 + 1 + 1) [[.int .i64 0], [.int .i64 10], [.int .i64 100], [.int .i64 1439], [.int .i64 1440], [.int .i64 5000], [.int .i64 20000]] [0, 10, 100, 1439, 1440, 5000, 20000] rfl (by omega) (by omega) (by simp) (by simp)
  obtain ⟨x25, a1, q25, b1, c1, g25⟩ := ItemText_ok fu n hfu ls (at_ + 1 + 1 + 1 + 1) (by omega) (by omega)
  obtain ⟨x30, a2, q30, b2, c2, g30⟩ := ItemText_ok fu n hfu ls a1 (by omega) (by omega)
  obtain ⟨x35, q35, g35⟩ := some10_ok fu (n + 1) ls a2 [[.str ⟨#[]⟩], [.str ⟨#[111, 110, 101, 10]⟩], [.str ⟨#[111, 110, 101, 10, 116, 119, 111, 10]⟩], [.str x25], [.str x30]] [⟨#[]⟩, ⟨#[111, 110, 101, 10]⟩, ⟨#[111, 110, 101, 10, 116, 119, 111, 10]⟩, x25, x30] rfl (by omega) (by omega) (by simp) (by simp)
  obtain ⟨x40, g40⟩ := Flip_ok fu (n + 1) ls (a2 + 1) 60 (by omega) (by omega)
  have z5 : x5.size ≤ 10 := sz_mem q5 rfl
  have z15 : x15.size ≤ 200 := Nat.le_trans (sz_mem q15 rfl) (by decide)
  have z35 : x35.size ≤ 30000 := by
    simp only [List.mem_cons, List.not_mem_nil, or_false] at q35
    rcases q35 with rfl | rfl | rfl | rfl | rfl
    · decide
    · decide
    · decide
    · omega
    · omega
  have ze : (⟨#[]⟩ : ByteArray).size ≤ 10 := by decide
  rw [chasemake_Stream_Item_eq, g5, skS_some, g10, skI_some, g15, skS_some, g20, skI_some, g25, skS_some, g30, skS_some, g35, skS_some, g40, skB_some, ebe]
  cases x40
  · rw [cnd_false]
    exact ⟨⟨id, x5, x10, x15, x20, ⟨#[]⟩, x35⟩, _, ⟨hid, z5, z15, ze, z35⟩, by omega, by omega, rfl⟩
  · obtain ⟨x45, q45, g45⟩ := Next_ok fu (n + 2) ls (a2 + 1 + 1) 6 (by omega) (by omega)
    rw [cnd_true, g45, skI_some, cnd_decide]
    by_cases k0 : x45 = 0
    · obtain ⟨x50, q50, g50⟩ := some10_ok fu (n + 1) ls (a2 + 1 + 1 + 1) [[.str ⟨#[]⟩], [.str ⟨#[65]⟩], [.str id]] [⟨#[]⟩, ⟨#[65]⟩, id] rfl (by omega) (by omega) (by simp) (by simp)
      obtain ⟨x55, q55, g55⟩ := some10_ok fu (n + 1) ls (a2 + 1 + 1 + 1 + 1) [[.str ⟨#[]⟩], [.str ⟨#[65, 110, 110]⟩], [.str ⟨#[97, 110, 110]⟩]] [⟨#[]⟩, ⟨#[65, 110, 110]⟩, ⟨#[97, 110, 110]⟩] rfl (by omega) (by omega) (by simp) (by simp)
      have z50 : x50.size ≤ 10 := by
        simp only [List.mem_cons, List.not_mem_nil, or_false] at q50
        rcases q50 with rfl | rfl | rfl
        · decide
        · decide
        · exact hid
      rw [if_pos k0, g50, skS_some, g55, skS_some]
      exact ⟨⟨x50, x55, x10, x15, x20, ⟨#[]⟩, x35⟩, _, ⟨z50, sz_mem q55 rfl, z15, ze, z35⟩, by omega, by omega, rfl⟩
    rw [if_neg k0, cnd_decide]
    by_cases k1 : x45 = 1
    · obtain ⟨v, a, b3, c3, g⟩ := odd10_ok fu n ls (a2 + 1 + 1 + 1) 1 4 (by omega) (by omega) (by omega) (by omega) (by omega)
      rw [if_pos k1, g, skI_some]
      exact ⟨⟨id, x5, v, x15, x20, ⟨#[]⟩, x35⟩, _, ⟨hid, z5, z15, ze, z35⟩, b3, by omega, rfl⟩
    rw [if_neg k1, cnd_decide]
    by_cases k2 : x45 = 2
    · obtain ⟨x65, q65, g65⟩ := Pick_okL fu (n + 1) ls (a2 + 1 + 1 + 1) [[.int .i64 120], [.int .i64 121]] [120, 121] rfl (by omega) (by omega) (by simp) (by simp)
      obtain ⟨c, rfl, hc⟩ : ∃ c : Nat, x65 = c ∧ c ≤ 121 := ⟨x65.toNat, by simp at q65; omega, by simp at q65; omega⟩
      have g66 := Repeat_ev fu (n + 3) ⟨#[97]⟩ c ⟨by omega, by show 1 * c ≤ _; omega⟩
      have zr := rep_sz c
      generalize (⟨(Go.Lib.repeatL (⟨#[97]⟩ : ByteArray).data.toList c).toArray⟩ : ByteArray) = u at *
      obtain ⟨x71, q71, g71⟩ := some10_ok fu (n + 1) ls (a2 + 1 + 1 + 1 + 1) [[.str ⟨#[32, 97]⟩], [.str ⟨#[97, 32, 32, 98]⟩], [.str ⟨#[97, 10]⟩], [.str ⟨#[255]⟩], [.str u]] [⟨#[32, 97]⟩, ⟨#[97, 32, 32, 98]⟩, ⟨#[97, 10]⟩, ⟨#[255]⟩, u] rfl (by omega) (by omega) (by simp) (by simp)
      have z71 : x71.size ≤ 200 := by
        simp only [List.mem_cons, List.not_mem_nil, or_false] at q71
        rcases q71 with rfl | rfl | rfl | rfl | rfl
        · decide
        · decide
        · decide
        · decide
        · omega
      rw [if_pos k2, g65, skI_some, g66, rS_some, g71, skS_some]
      exact ⟨⟨id, x5, x10, x71, x20, ⟨#[]⟩, x35⟩, _, ⟨hid, z5, z71, ze, z35⟩, by omega, by omega, rfl⟩
    rw [if_neg k2, cnd_decide]
    by_cases k3 : x45 = 3
    · obtain ⟨v, a, b3, c3, g⟩ := odd10_ok fu n ls (a2 + 1 + 1 + 1) 0 5761439 (by omega) (by omega) (by omega) (by omega) (by omega)
      rw [if_pos k3, g, skI_some]
      exact ⟨⟨id, x5, x10, x15, v, ⟨#[]⟩, x35⟩, _, ⟨hid, z5, z15, ze, z35⟩, b3, by omega, rfl⟩
    rw [if_neg k3, cnd_decide]
    by_cases k4 : x45 = 4
    · obtain ⟨x81, q81, g81⟩ := some10_ok fu (n + 1) ls (a2 + 1 + 1 + 1) [[.str ⟨#[65]⟩], [.str id], [.str ⟨#[57]⟩]] [⟨#[65]⟩, id, ⟨#[57]⟩] rfl (by omega) (by omega) (by simp) (by simp)
      have z81 : x81.size ≤ 10 := by
        simp only [List.mem_cons, List.not_mem_nil, or_false] at q81
        rcases q81 with rfl | rfl | rfl
        · decide
        · exact hid
        · decide
      rw [if_pos k4, g81, skS_some]
      exact ⟨⟨id, x5, x10, x15, x20, x81, x35⟩, _, ⟨hid, z5, z15, z81, z35⟩, by omega, by omega, rfl⟩
    rw [if_neg k4]
    obtain ⟨x86, q86, g86⟩ := Pick_okL fu (n + 1) ls (a2 + 1 + 1 + 1) [[.int .i64 19999], [.int .i64 20000]] [19999, 20000] rfl (by omega) (by omega) (by simp) (by simp)
    obtain ⟨c, rfl, hc⟩ : ∃ c : Nat, x86 = c ∧ c ≤ 20000 := ⟨x86.toNat, by simp at q86; omega, by simp at q86; omega⟩
    have g87 := Repeat_ev fu (n + 3) ⟨#[97]⟩ c ⟨by omega, by show 1 * c ≤ _; omega⟩
    have zr := rep_sz c
    generalize (⟨(Go.Lib.repeatL (⟨#[97]⟩ : ByteArray).data.toList c).toArray⟩ : ByteArray) = u at *
    have zu : (u ++ (⟨#[10]⟩ : ByteArray)).size ≤ 20001 := by rw [ByteArray.size_append]; show _ + 1 ≤ _; omega
    obtain ⟨x92, q92, g92⟩ := some10_ok fu (n + 1) ls (a2 + 1 + 1 + 1 + 1) [[.str ⟨#[110, 111, 32, 101, 110, 100]⟩], [.str ⟨#[1, 10]⟩], [.str ⟨#[127, 10]⟩], [.str ⟨#[255, 10]⟩], [.str (u ++ (⟨#[10]⟩ : ByteArray))]] [⟨#[110, 111, 32, 101, 110, 100]⟩, ⟨#[1, 10]⟩, ⟨#[127, 10]⟩, ⟨#[255, 10]⟩, u ++ (⟨#[10]⟩ : ByteArray)] rfl (by omega) (by omega) (by simp) (by simp)
    have z92 : x92.size ≤ 30000 := by
      simp only [List.mem_cons, List.not_mem_nil, or_false] at q92
      rcases q92 with rfl | rfl | rfl | rfl | rfl
      · decide
      · decide
      · decide
      · decide
      · omega
    rw [g86, skI_some, g87, rS_some, stG_pos (by show _ + 1 ≤ _; omega), g92, skS_some]
    exact ⟨⟨id, x5, x10, x15, x20, ⟨#[]⟩, x92⟩, _, ⟨hid, z5, z15, ze, z92⟩, by omega, by omega, rfl⟩
/-! ### Right items -/
theorem ovr_par (x : Item) (p : ByteArray) : ovr (itemC x) 5 [.str p] = itemC { x with parent := p } := rfl
theorem RightItems_L2 (fu n : Nat) (hfu : 1000000 ≤ fu) (ls : List Int) (N : Nat) (hN : N ≤ 1000) : ∀ (m i k : Nat) (l : List Item) (at_ : Int), l.length = N → (∀ x ∈ l, ItS x) → i + m = N → m < k → 0 ≤ at_ → at_ + 2 * m < 4000000000000000000 →
    ∃ (l' : List Item) (a : Int), l'.length = N ∧ (∀ x ∈ l', ItS x) ∧ at_ ≤ a ∧ a ≤ at_ + 2 * m ∧ chasemake_Stream_RightItems_L2 fu (n + 7) k (l.map itemC) (N : Nat) (i : Nat) (ls.map i1) at_ = some ([.ref 1], [some (.box [.list (ls.map i1), .int .i64 a]), some (.row false 7 (l'.map itemC) [])])
  | m, i, 0, l, at_, hl, hs, hi, hk, h0, h1 => by omega
  | 0, i, k + 1, l, at_, hl, hs, hi, hk, h0, h1 => by
    rw [chasemake_Stream_RightItems_L2_eq, cnd_decide, if_neg (by omega)]
    exact ⟨l, at_, hl, hs, by omega, by omega, rfl⟩
  | m + 1, i, k + 1, l, at_, hl, hs, hi, hk, h0, h1 => by
    obtain ⟨b, g1⟩ := Flip_ok fu (n + 4) ls at_ 2 (by omega) (by omega)
    rw [chasemake_Stream_RightItems_L2_eq, cnd_decide, if_pos (by omega), g1, skB_some, i64s (by omega)]
    cases b
    · have hil : i < l.length := by omega
      obtain ⟨k0, hk0, g2⟩ := Next_ok fu (n + 5) ls (at_ + 1) ((l.map itemC).length : Nat) (by omega) (by omega)
      have hk0 := hk0 (by simp; omega) (by simp; omega)
      obtain ⟨q, rfl⟩ : ∃ q : Nat, k0 = q := ⟨k0.toNat, by omega⟩
      have hql : q < l.length := by simp at hk0; omega
      have put : ∀ (x : Item) (l : List Item), ItS x → (∀ x ∈ l, ItS x) → ∀ y ∈ l.set i x, ItS y := fun x l hx hl y hy => by
        rcases List.mem_or_eq_of_mem_set hy with h | h
        · exact hl y h
        · subst h; exact hx
      have hx := hs l[i] (List.getElem_mem hil)
      have hq := hs l[q] (List.getElem_mem hql)
      have r1 : ∀ K : List MV → Out, rdN (l.map itemC) i K = K (itemC l[i]) := fun K => rdN_get (by simp [hil]) K
      have r2 : ∀ K : List MV → Out, rdN (l.map itemC) q K = K (itemC l[q]) := fun K => rdN_get (by simp [hql]) K
      have c1 : ∀ (x : Item) (K : MV → Out), cel (itemC x) 5 K = K (.str x.parent) := fun _ _ => rfl
      have c2 : ∀ (x : Item) (K : MV → Out), cel (itemC x) 0 K = K (.str x.id) := fun _ _ => rfl
      rw [cnd_false, g2, skI_some]
      have x1 : ∀ o : Out, ixG (l.map itemC).length (i : Int) o = o := fun o => ixG_n (by simpa using hil) o
      have x2 : ∀ o : Out, ixG (l.map itemC).length (q : Int) o = o := fun o => ixG_n (by simpa using hql) o
      have e1 : (l.map itemC).set i (ovr (itemC l[i]) 5 [.str l[q].id]) = (l.set i { l[i] with parent := l[q].id }).map itemC := by rw [ovr_par, List.map_set]
      have h1' : ItS { l[i] with parent := l[q].id } := ⟨hx.id, hx.cust, hx.name, hq.id, hx.text⟩
      have hs1 := put _ l h1' hs
      have hl1 : (l.set i { l[i] with parent := l[q].id }).length = N := by rw [List.length_set]; exact hl
      simp only [Int.toNat_natCast, x1, x2, r1, r2, c1, c2, dS_str, e1]
      have hil1 : i < (l.set i { l[i] with parent := l[q].id }).length := by omega
      have hget : (l.set i { l[i] with parent := l[q].id })[i] = { l[i] with parent := l[q].id } := by simp
      generalize ey : ({ l[i] with parent := l[q].id } : Item) = y at *
      generalize el : l.set i y = l1 at *
      have x3 : ∀ o : Out, ixG (l1.map itemC).length (i : Int) o = o := fun o => ixG_n (by simpa using hil1) o
      have r3 : ∀ K : List MV → Out, rdN (l1.map itemC) i K = K (itemC y) := fun K => rdN_get (by rw [List.getElem?_map, List.getElem?_eq_getElem hil1, hget]; rfl) K
      have e2 : (l1.map itemC).set i (ovr (itemC y) 5 [.str l[i].parent]) = (l1.set i { y with parent := l[i].parent }).map itemC := by rw [ovr_par, List.map_set]
      simp only [x3, r3, e2, ItemsFault_ok fu n l1 hfu, rI_some, cnd_decide]
      have h2' : ItS { y with parent := l[i].parent } := ⟨h1'.id, h1'.cust, h1'.name, hx.parent, h1'.text⟩
      have hs2 := put _ l1 h2' hs1
      have hl2 : (l1.set i { y with parent := l[i].parent }).length = N := by rw [List.length_set]; exact hl1
      obtain ⟨l', a, p1, p2, p3, p4, g⟩ := RightItems_L2 fu n hfu ls N hN m (i + 1) k l1 (at_ + 1 + 1) hl1 hs1 (by omega) (by omega) (by omega) (by omega)
      obtain ⟨l'', a', p1', p2', p3', p4', g'⟩ := RightItems_L2 fu n hfu ls N hN m (i + 1) k _ (at_ + 1 + 1) hl2 hs2 (by omega) (by omega) (by omega) (by omega)
      split
      · exact ⟨l'', a', p1', p2', by omega, by omega, g'⟩
      · cases !decide (itemsE l1 = 0)
        · exact ⟨l', a, p1, p2, by omega, by omega, g⟩
        · exact ⟨l'', a', p1', p2', by omega, by omega, g'⟩
    · obtain ⟨l', a, p1, p2, p3, p4, g⟩ := RightItems_L2 fu n hfu ls N hN m (i + 1) k l (at_ + 1) hl hs (by omega) (by omega) (by omega) (by omega)
      rw [cnd_true]
      exact ⟨l', a, p1, p2, by omega, by omega, g⟩
theorem RightItems_L1 (fu n : Nat) (hfu : 1000000 ≤ fu) (ls : List Int) (N : Nat) (hN : N ≤ 1000) : ∀ (m i k : Nat) (l : List Item) (at_ : Int), l.length ≤ i → (∀ x ∈ l, ItS x) → i + m = N → m < k → 0 ≤ at_ → at_ + 2 * N + 120 * m < 900000000000000000 →
    ∃ (l' : List Item) (a : Int), l'.length ≤ N ∧ (∀ x ∈ l', ItS x) ∧ 0 ≤ a ∧ a ≤ at_ + 2 * N + 120 * m ∧ chasemake_Stream_RightItems_L1 fu (n + 7) k (l.map itemC) (N : Nat) (i : Nat) (ls.map i1) at_ = some ([.ref 1], [some (.box [.list (ls.map i1), .int .i64 a]), some (.row false 7 (l'.map itemC) [])])
  | m, i, 0, l, at_, hl, hs, hi, hk, h0, h1 => by omega
  | 0, i, k + 1, l, at_, hl, hs, hi, hk, h0, h1 => by
    obtain ⟨l', a, p1, p2, p3, p4, g⟩ := RightItems_L2 fu n hfu ls l.length (by omega) l.length 0 fu l at_ rfl hs (by omega) (by omega) h0 (by omega)
    rw [chasemake_Stream_RightItems_L1_eq, cnd_decide, if_neg (by omega), List.length_map]
    exact ⟨l', a, by omega, p2, by omega, by omega, g⟩
  | m + 1, i, k + 1, l, at_, hl, hs, hi, hk, h0, h1 => by
    obtain ⟨id, hid, g1⟩ := itemId_ok fu (n + 6) (i : Int)
    obtain ⟨x, a1, hx, b1, c1, g2⟩ := Item_ok fu (n + 2) hfu ls at_ id hid h0 (by omega)
    have hf := ItemFault_ok fu (n + 2) x hfu
    obtain ⟨l', a, p1, p2, p3, p4, g⟩ := RightItems_L1 fu n hfu ls N hN m (i + 1) k l a1 (by omega) hs (by omega) (by omega) b1 (by omega)
    obtain ⟨l'', a', p1', p2', p3', p4', g'⟩ := RightItems_L1 fu n hfu ls N hN m (i + 1) k (l ++ [x]) a1 (by simp; omega) (fun y hy => by
      rcases List.mem_append.1 hy with h | h
      · exact hs y h
      · rcases List.mem_singleton.1 h with rfl; exact hx) (by omega) (by omega) b1 (by omega)
    have e : l.map itemC ++ [[.str x.id, .str x.cust, .int .i64 x.kind, .str x.name, .int .i64 x.at_, .str x.parent, .str x.text]] = (l ++ [x]).map itemC := by rw [List.map_append]; rfl
    have ex : itemC x = [.str x.id, .str x.cust, .int .i64 x.kind, .str x.name, .int .i64 x.at_, .str x.parent, .str x.text] := rfl
    rw [ex] at g2 hf
    rw [chasemake_Stream_RightItems_L1_eq, cnd_decide, if_pos (by omega), g1, rS_some, g2]
    simp only [callE_some', unX_cons, dBx_box, unC_cons, dL_list, dI_int, unN_nil, unXN_nil, dA_agg, dS_str, eqM_self', g1, rS_some, hf, rI_some, i64s (show i < 9223372036854775807 by omega), e]
    rw [gL_pos (by simp; omega)]
    cases hid2 : !decide (x.id = id) with
    | true => rw [cnd_true, eqM_self']; exact ⟨l', a, p1, p2, p3, by omega, g⟩
    | false =>
      rw [cnd_false]
      cases !decide (x.parent = (⟨#[]⟩ : ByteArray)) with
      | true => rw [cnd_true, eqM_self']; exact ⟨l', a, p1, p2, p3, by omega, g⟩
      | false =>
        rw [cnd_false]
        cases !decide (itE x = 0) with
        | true => rw [cnd_true, eqM_self']; exact ⟨l', a, p1, p2, p3, by omega, g⟩
        | false => rw [cnd_false, eqM_self']; exact ⟨l'', a', p1', p2', p3', by omega, g'⟩
theorem RightItems_ok (fu n : Nat) (hfu : 1000000 ≤ fu) (ls : List Int) (at_ : Int) (N : Nat) (hN : N ≤ 1000) (h0 : 0 ≤ at_) (h1 : at_ < 800000000000000000) :
    ∃ (l : List Item) (a : Int), l.length ≤ N ∧ (∀ x ∈ l, ItS x) ∧ 0 ≤ a ∧ a ≤ at_ + 122000 ∧ ev fu (n + 8) 44 [.ptr 0 0, .int .i64 (N : Nat)] (sb ls at_) = some ([.ref 1], [some (.box [.list (ls.map i1), .int .i64 a]), some (.row false 7 (l.map itemC) [])]) := by
  obtain ⟨l, a, p1, p2, p3, p4, g⟩ := RightItems_L1 fu n hfu ls N hN N 0 fu [] at_ (by simp) (by simp) (by omega) (by omega) h0 (by omega)
  refine ⟨l, a, p1, p2, p3, by omega, ?_⟩
  rw [chasemake_Stream_RightItems_eq]
  exact g
end Go.Pv
/- Chapter 6: codings; what streams make of them; their errors, both sides. -/
namespace Go.Pv
open Go Go.Proofs

structure Cod where
  item : ByteArray
  vals : List Choice
def codC (c : Cod) : List MV := [.str c.item, valsM c.vals]
@[simp] theorem codC_len (c : Cod) : (codC c).length = 2 := rfl
theorem rdCod {α : Type} {xs : List Cod} {i : Nat} (h : i < xs.length) (K : ByteArray → List (List MV) → Option α) :
    rd (xs.map codC) (i : Int) (fun e => gd (e.length = 2) (gd (0 + 2 ≤ e.length) (unC (List.take 2 (List.drop 0 e)) fun m2 c3 => (dS m2 fun x4 => (unC c3 fun m5 c6 => (dL m5 fun x7 => (unN c6 (K x4 x7)))))))) = K xs[i].item (xs[i].vals.map choC) := by
  rw [rdm h, gd_pos (codC_len _), gd_pos (by simp)]
  simp [codC, valsM]
/-! ### Their errors -/
theorem sless_nil (a : ByteArray) : sless a ⟨#[]⟩ = false := by
  have e : (⟨#[]⟩ : ByteArray).toList = [] := by kernel_rfl
  unfold sless
  rw [e]
  cases a.toList <;> rfl
theorem keyS_ne {s : ByteArray} (h : keyS s = true) : s ≠ ⟨#[]⟩ := by
  intro e
  subst e
  exact absurd h (by decide)
end Go.Pv
/- Chapter 6: which codings have a choice, and how many; both sides. -/
namespace Go.Pv
open Go Go.Proofs

/-! ### Having -/
/-! ### Rows of counts -/
end Go.Pv
/- Chapter 6: counts of choices; both sides. -/
namespace Go.Pv
open Go Go.Proofs

/-! ### What the errors say -/
theorem fnz0 : ∀ (l : List Int), fnz l = 0 → ∀ x ∈ l, x = 0
  | [], _, x, hx => by cases hx
  | a :: r, h, x, hx => by
    rw [fnz] at h
    split at h
    · rcases List.mem_cons.1 hx with rfl | hx
      · assumption
      · exact fnz0 r h x hx
    · exact absurd h (by assumption)
theorem errL_at {α : Type} (f : Nat → Unit → α → Int) : ∀ (xs : List α) (i : Nat), (errL f (fun _ s _ => s) i () xs).1 = 0 → ∀ (k : Nat) (x : α), xs[k]? = some x → f (i + k) () x = 0
  | [], _, _, k, x, hx => by simp at hx
  | a :: r, i, h, k, x, hx => by
    rw [errL] at h
    split at h
    · cases k with
      | zero => simp at hx; subst hx; assumption
      | succ k =>
        have := errL_at f r (i + 1) h k x (by simpa using hx)
        rw [show i + (k + 1) = i + 1 + k by omega]; exact this
    · exact absurd h (by assumption)
theorem if_zero {b : Bool} {c : Int} (h : (if b = true then c else 0) = 0) (hc : c ≠ 0) : b = false := by
  cases b
  · rfl
  · exact absurd h hc
/-- Choices in the order of their field. -/
structure Inc (cs v : List ByteArray) : Prop where
  has : ∀ s ∈ v, 0 ≤ sIx s cs
  rise : v.Pairwise fun s t => sIx s cs < sIx t cs
theorem Inc.nil (cs : List ByteArray) : Inc cs [] := ⟨fun s h => (by cases h), .nil⟩
/-! ### Counting -/
/-! ### The functions -/
end Go.Pv
/- The law CodingCounts. -/
namespace Go.Pv
open Go Go.Proofs

/-- What a function of streams hands out as a row of its own. -/
theorem skR_eq (sz : Nat) (l es : List (List MV)) (a : Int) (K : List (List MV) → Int → List (List MV) → Out) :
    (callE (some ([.ref 1], [some (.box [.list l, .int .i64 a]), some (.row false sz es [])])) fun r1 B2 => (unX B2 fun o3 B4 => (dBx o3 fun c5 => (unC c5 fun m6 c7 => (dL m6 fun x8 => (unC c7 fun m9 c10 => (dI .i64 m9 fun x11 => (unN c10 (unX B4 fun o12 B13 => (dRw false sz o12 fun x14 => (unXN B13 (unC r1 fun m15 r16 => (dRf 1 m15 (unN r16 (K x8 x11 x14))))))))))))))) = K l a es := by
  rw [callE_some', unX_cons, dBx_box, unC_cons, dL_list, unC_cons, dI_int, unN_nil, unX_cons, dRw_row, unXN_nil, unC_cons, dRf_ref, unN_nil]
end Go.Pv
/- Chapter 1: the program's checks of one item. -/
namespace Go.Pv
open Go Go.Proofs

/-! ### Strings: ends -/
theorem ext_one (s : ByteArray) (i : Nat) (h : i < s.size) (c : UInt8) : decide (s.extract i (i + 1) = ⟨#[c]⟩) = decide (bAt s i = (c.toNat : Int)) := by
  have hl : i < s.data.toList.length := by rw [Array.length_toList]; exact h
  have e1 : (s.extract i (i + 1)).data.toList = [s.data.toList[i]] := by
    have : (s.extract i (i + 1)).data.toList = (s.data.toList.drop i).take (i + 1 - i) := by
      simp only [ByteArray.data_extract, Array.toList_extract, List.extract]
    rw [this, List.drop_eq_getElem_cons hl, Nat.add_sub_cancel_left]; rfl
  rw [bAt_el s hl]
  congr 1
  apply propext
  constructor
  · intro e
    rw [e] at e1
    have : c = s.data.toList[i] := by simpa using e1
    rw [← this]
  · intro e
    apply ByteArray.ext
    apply Array.ext'
    rw [e1]
    have : (s.data.toList[i]).toNat = c.toNat := by exact_mod_cast e
    rw [UInt8.toNat_inj.1 this]
def preB (c : Int) (s : ByteArray) : Bool := decide (1 ≤ s.size) && decide (bAt s 0 = c)
def sufB (c : Int) (s : ByteArray) : Bool := decide (1 ≤ s.size) && decide (bAt s (s.size - 1) = c)
theorem one_size (c : UInt8) : ((⟨#[c]⟩ : ByteArray).size : Int) = 1 := rfl
theorem HasPrefix1_ok (fu n : Nat) (s : ByteArray) (c : UInt8) (h : s.size ≤ 9223372036854775807) : ev fu (n + 2) 93 [.str s, .str ⟨#[c]⟩] [] = some ([.bool (preB c.toNat s)], []) := by
  rw [strings_HasPrefix_eq, internal_stringslite_HasPrefix_eq, cnd_decide, one_size]
  unfold preB
  by_cases h1 : 1 ≤ s.size
  · rw [if_pos (by omega), slS_pos (by omega), decide_eq_true h1, Bool.true_and, rB_some]
    have := ext_one s 0 (by omega) c
    rw [← this]; rfl
  · rw [if_neg (by omega), decide_eq_false h1, Bool.false_and, rB_some]
theorem HasSuffix1_ok (fu n : Nat) (s : ByteArray) (c : UInt8) (h : s.size ≤ 9223372036854775807) : ev fu (n + 2) 105 [.str s, .str ⟨#[c]⟩] [] = some ([.bool (sufB c.toNat s)], []) := by
  rw [strings_HasSuffix_eq, internal_stringslite_HasSuffix_eq, cnd_decide, one_size]
  unfold sufB
  by_cases h1 : 1 ≤ s.size
  · have hw : IntKind.i64.wrap ((s.size : Int) - 1) = ((s.size - 1 : Nat) : Int) := by rw [w64 (by omega) (by omega)]; omega
    rw [if_pos (by omega), hw, slS_pos (by omega), decide_eq_true h1, Bool.true_and, rB_some]
    have := ext_one s (s.size - 1) (by omega) c
    rw [← this, Nat.sub_add_cancel h1]; rfl
  · rw [if_neg (by omega), decide_eq_false h1, Bool.false_and, rB_some]
theorem dw_self {α : Type} (p : α → Bool) : ∀ l : List α, l.dropWhile p = l ↔ ∀ a r, l = a :: r → p a = false
  | [] => by simp
  | a :: r => by
    rw [List.dropWhile_cons]
    constructor
    · intro h b q e
      injection e with e1 e2
      subst e1
      cases hp : p a with
      | false => rfl
      | true =>
        rw [if_pos hp] at h
        have h1 := congrArg List.length h
        have h2 := (List.dropWhile_suffix (l := r) p).length_le
        simp at h1; omega
    · intro h
      rw [h a r rfl]; rfl
theorem trim_self (l cs : List UInt8) : Go.Lib.trimS l cs = l ↔ (∀ a r, l = a :: r → cs.contains a = false) ∧ (∀ a r, l.reverse = a :: r → cs.contains a = false) := by
  have e : Go.Lib.trimS l cs = ((l.reverse.dropWhile (cs.contains ·)).reverse).dropWhile (cs.contains ·) := rfl
  rw [e, ← dw_self, ← dw_self]
  have hR : ((l.reverse.dropWhile (cs.contains ·)).reverse).length ≤ l.length := by
    rw [List.length_reverse]
    have := (List.dropWhile_suffix (l := l.reverse) (cs.contains ·)).length_le
    simpa using this
  constructor
  · intro h
    have h2 := (List.dropWhile_suffix (l := (l.reverse.dropWhile (cs.contains ·)).reverse) (cs.contains ·)).length_le
    rw [h] at h2
    have h3 : l.reverse.dropWhile (cs.contains ·) = l.reverse := (List.dropWhile_suffix (l := l.reverse) (cs.contains ·)).eq_of_length (by rw [List.length_reverse] at h2 hR ⊢; omega)
    rw [h3, List.reverse_reverse] at h
    exact ⟨h, h3⟩
  · rintro ⟨h1, h2⟩
    rw [h2, List.reverse_reverse, h1]
theorem trimB_self (s : ByteArray) : decide (trimB s = s) = (!preB 32 s && !sufB 32 s) := by
  have hs : s.data.toList.length = s.size := by rw [Array.length_toList]; rfl
  have e1 : (trimB s = s) ↔ Go.Lib.trimS s.data.toList [32] = s.data.toList := by
    unfold trimB
    constructor
    · intro h
      have := congrArg (fun b => b.data.toList) h
      simpa using this
    · intro h
      rw [h]
  have c32 : ∀ a : UInt8, [(32 : UInt8)].contains a = decide ((a.toNat : Int) = 32) := by
    intro a
    simp only [List.contains_cons, List.contains_nil, Bool.or_false]
    by_cases h : a = 32
    · subst h; rfl
    · have : ¬ ((a.toNat : Int) = 32) := fun e => by
        have e2 : a.toNat = (32 : UInt8).toNat := by
          show a.toNat = 32
          omega
        exact h (UInt8.toNat_inj.1 e2)
      rw [decide_eq_false this]
      simpa using h
  rw [Bool.eq_iff_iff, decide_eq_true_iff, e1, trim_self, Bool.and_eq_true, Bool.not_eq_true', Bool.not_eq_true']
  unfold preB sufB
  by_cases h0 : 1 ≤ s.size
  · have a0 := bAt_el s (i := 0) (by omega)
    have a1 := bAt_el s (i := s.size - 1) (by omega)
    rw [decide_eq_true h0, Bool.true_and, Bool.true_and, a0, a1, ← c32, ← c32]
    have hd : s.data.toList = s.data.toList[0] :: s.data.toList.drop 1 := by
      have := List.drop_eq_getElem_cons (l := s.data.toList) (i := 0) (by omega)
      simpa using this
    have hr : s.data.toList.reverse[0]? = some (s.data.toList[s.size - 1]'(by omega)) := by
      rw [List.getElem?_reverse (by omega), List.getElem?_eq_getElem (by omega)]
      congr 1
    generalize s.data.toList[s.size - 1]'(by omega) = z at *
    constructor
    · rintro ⟨h1, h2⟩
      refine ⟨h1 _ _ hd, ?_⟩
      cases hq : s.data.toList.reverse with
      | nil => rw [hq] at hr; cases hr
      | cons a r =>
        rw [hq] at hr
        have hr : a = z := by simpa using hr
        rw [← hr]; exact h2 _ _ hq
    · rintro ⟨h1, h2⟩
      refine ⟨fun a r e => ?_, fun a r e => ?_⟩
      · have : s.data.toList[0] = a := by simp [e]
        rw [← this]; exact h1
      · rw [e] at hr
        have hr : a = z := by simpa using hr
        rw [hr]; exact h2
  · have hn : s.data.toList = [] := List.eq_nil_of_length_eq_zero (by omega)
    rw [hn, decide_eq_false h0]
    simp
/-! ### Texts -/
theorem Visible_L1 (fu n : Nat) (s : ByteArray) (f : Bool) (hs : s.size ≤ 400000) : ∀ (m i k1 : Nat), i + m = s.size → m < k1 →
    base_Visible_L1 fu (n + 1) k1 s f (s.size : Nat) (i : Nat) = some ([.bool (visFrom f s i m && validB s)], [])
  | m, i, 0, hi, hk => by omega
  | 0, i, k1 + 1, hi, hk => by
    rw [base_Visible_L1_eq, cnd_decide, if_neg (by omega), Valid_ev fu n s (by omega), rB_some]
    unfold visFrom; rw [Bool.true_and]
  | m + 1, i, k1 + 1, hi, hk => by
    rw [base_Visible_L1_eq, cnd_decide, if_pos (by omega), ixS_pos (by omega) (by omega), Int.toNat_natCast, i64s (by omega), Visible_L1 fu n s f hs m (i + 1) k1 (by omega) (by omega), visFrom]
    unfold visC
    cases decide (bAt s i < 32) <;> cases decide (bAt s i = 127) <;> cases decide (bAt s i = 10) <;> cases f <;> rfl
theorem Visible_ok (fu n : Nat) (s : ByteArray) (f : Bool) (hs : s.size ≤ 400000) (hfu : 1000000 ≤ fu) : ev fu (n + 2) 104 [.str s, .bool f] [] = some ([.bool (visFrom f s 0 s.size && validB s)], []) := by
  rw [base_Visible_eq]
  exact Visible_L1 fu n s f hs s.size 0 fu (by omega) (by omega)
theorem PPlain_ok (fu n : Nat) (s : ByteArray) (hs : s.size ≤ 400000) (hfu : 1000000 ≤ fu) : ev fu (n + 4) 57 [.str s] [] = some ([.bool (plainS s)], []) := by
  have hc : ev fu (n + 3) 100 [.str s, .str ⟨#[32, 32]⟩] [] = some ([.bool (twoB s)], []) := Contains_ev fu n s ⟨#[32, 32]⟩ (by omega)
  have h1 : ev fu (n + 3) 93 [.str s, .str ⟨#[32]⟩] [] = some ([.bool (preB 32 s)], []) := HasPrefix1_ok fu (n + 1) s 32 (by omega)
  have h2 : ev fu (n + 3) 105 [.str s, .str ⟨#[32]⟩] [] = some ([.bool (sufB 32 s)], []) := HasSuffix1_ok fu (n + 1) s 32 (by omega)
  rw [base_Plain_eq, Visible_ok fu (n + 1) s false hs hfu, rB_some, h1, rB_some, h2, rB_some, hc, rB_some]
  unfold plainS
  rw [trimB_self]
  cases visFrom false s 0 s.size <;> cases validB s <;> cases preB 32 s <;> cases sufB 32 s <;> cases twoB s <;> rfl
theorem PText_ok (fu n : Nat) (s : ByteArray) (hs : s.size ≤ 400000) (hfu : 1000000 ≤ fu) : ev fu (n + 3) 59 [.str s] [] = some ([.bool (textS s)], []) := by
  have h2 : ev fu (n + 2) 105 [.str s, .str ⟨#[10]⟩] [] = some ([.bool (sufB 10 s)], []) := HasSuffix1_ok fu n s 10 (by omega)
  rw [base_Text_eq, Visible_ok fu n s true hs hfu, rB_some, h2, rB_some]
  unfold textS
  by_cases h0 : s = ⟨#[]⟩
  · rw [decide_eq_true h0]
    cases visFrom true s 0 s.size <;> cases validB s <;> rfl
  · have hp : 1 ≤ s.size := by
      rcases Nat.eq_zero_or_pos s.size with h | h
      · exfalso; apply h0
        apply ByteArray.ext
        exact Array.eq_empty_of_size_eq_zero h
      · exact h
    unfold sufB
    rw [decide_eq_false h0, decide_eq_true hp]
    cases visFrom true s 0 s.size <;> cases validB s <;> cases decide (bAt s (s.size - 1) = 10) <;> rfl
theorem Moment_ok (fu n : Nat) (x : Int) : ev fu (n + 2) 58 [.int .i64 x] [] = some ([.bool (inB x 0 5761439)], []) := by
  rw [base_Moment_eq, In_ok, rB_some]
/-- The word of a kind. -/
def kindS (k : Int) : ByteArray := if k = 1 then ⟨#[109, 97, 105, 108]⟩ else if k = 2 then ⟨#[102, 105, 108, 101]⟩ else if k = 3 then ⟨#[98, 111, 120]⟩ else if k = 4 then ⟨#[110, 111, 116, 101]⟩ else ⟨#[]⟩
theorem kindWord_ok (fu n : Nat) (k : Int) : ev fu (n + 1) 56 [.int .i64 k] [] = some ([.str (kindS k)], []) := by
  rw [intake_kindWord_eq, cnd_decide, cnd_decide, cnd_decide, cnd_decide]
  unfold kindS
  repeat' split
  all_goals rfl
theorem kindS_nil (k : Int) : decide (kindS k = ⟨#[]⟩) = !inB k 1 4 := by
  unfold kindS inB
  repeat' split
  · subst k; rfl
  · subst k; rfl
  · subst k; rfl
  · subst k; rfl
  · rw [decide_eq_true rfl, decide_eq_false (by omega)]; rfl
/-! ### One item -/
theorem CheckItem_ok (fu n : Nat) (x : Item) (hfu : 1000000 ≤ fu) : ev fu (n + 5) 13 [.agg (itemC x)] [] = some ([.int .i64 (itE x)], []) := by
  unfold itE itemC
  rw [intake_CheckItem_eq, Key_ok fu (n + 2) _ hfu, rB_some, cnd_errc _ _ (by decide), out_fnz]
  refine errO_congr fun _ => ?_
  rw [Key_ok fu (n + 2) _ hfu, rB_some, cnd_errc _ _ (by decide), out_fnz]
  refine errO_congr fun _ => ?_
  rw [kindWord_ok, rS_some, kindS_nil, cnd_errc _ _ (by decide), out_fnz]
  refine errO_congr fun _ => ?_
  rw [cnd_errc _ _ (by decide), out_fnz]
  refine errO_congr fun h => ?_
  have hn : x.name.size ≤ 120 := by
    by_cases h1 : (120 : Int) < (x.name.size : Int)
    · rw [decide_eq_true h1] at h; exact absurd h (by decide)
    · omega
  rw [PPlain_ok fu n x.name (by omega) hfu, rB_some, cnd_errc _ _ (by decide), out_fnz]
  refine errO_congr fun _ => ?_
  rw [Moment_ok, rB_some, cnd_errc _ _ (by decide), out_fnz]
  refine errO_congr fun _ => ?_
  have rest : (cnd (decide (x.parent = x.id)) (some ([.int .i64 (14 : Int)], [])) (cnd (decide ((20000 : Int) < (x.text.size : Int))) (some ([.int .i64 (2 : Int)], [])) (rB (ev fu (n + 4) 59 [.str x.text] []) fun x7 => (cnd (!x7) (some ([.int .i64 (3 : Int)], [])) (some ([.int .i64 (0 : Int)], []))))) : Out) = some ([.int .i64 (fnz [if decide (x.parent = x.id) = true then 14 else 0, if decide ((20000 : Int) < (x.text.size : Int)) = true then 2 else 0, if (!textS x.text) = true then 3 else 0])], []) := by
    rw [cnd_errc _ _ (by decide), out_fnz]
    refine errO_congr fun _ => ?_
    rw [cnd_errc _ _ (by decide), out_fnz]
    refine errO_congr fun h => ?_
    have hn : x.text.size ≤ 20000 := by
      by_cases h1 : (20000 : Int) < (x.text.size : Int)
      · rw [decide_eq_true h1] at h; exact absurd h (by decide)
      · omega
    rw [PText_ok fu (n + 1) x.text (by omega) hfu, rB_some, cnd_errc _ _ (by decide), out_fnz]; rfl
  rw [Key_ok fu (n + 2) _ hfu, rB_some, rest, out_fnz (if (!decide (x.parent = ⟨#[]⟩) && !keyS x.parent) = true then 5 else 0)]
  cases decide (x.parent = (⟨#[]⟩ : ByteArray)) with
  | true => rw [Bool.not_true, cnd_false, Bool.false_and]; rfl
  | false => rw [Bool.not_false, cnd_true, Bool.true_and, cnd_errc _ _ (by decide)]
end Go.Pv
/- Plain: the order of strings; pigeonholes. -/
namespace Go.Pv
open Go Go.Proofs

theorem sless_eq (a b : ByteArray) : sless a b = decide (a.data.toList < b.data.toList) := by
  unfold sless
  rw [bytesLess_eq, Lib.toList_data, Lib.toList_data]
theorem ba_ext {a b : ByteArray} (h : a.data.toList = b.data.toList) : a = b := by
  apply ByteArray.ext; apply Array.ext'; exact h
theorem sless_irr (a : ByteArray) : sless a a = false := by
  rw [sless_eq]; exact decide_eq_false (List.lt_irrefl _)
theorem sless_trans {a b c : ByteArray} (h1 : sless a b = true) (h2 : sless b c = true) : sless a c = true := by
  rw [sless_eq, decide_eq_true_iff] at *
  exact List.lt_trans h1 h2
theorem sless_tri {a b : ByteArray} (h1 : sless a b = false) (h2 : a ≠ b) : sless b a = true := by
  rw [sless_eq, decide_eq_false_iff_not] at h1
  rw [sless_eq, decide_eq_true_iff]
  rcases List.le_total a.data.toList b.data.toList with h | h
  · rcases Classical.em (b.data.toList < a.data.toList) with h' | h'
    · exact h'
    · exfalso; exact h2 (ba_ext (List.le_antisymm h (fun q => h1 q)))
  · rcases Classical.em (b.data.toList < a.data.toList) with h' | h'
    · exact h'
    · exfalso; exact h2 (ba_ext (List.le_antisymm (fun q => h' q) (fun q => h1 q)))
theorem sless_ne {a b : ByteArray} (h : sless a b = true) : a ≠ b := by
  intro e; subst e; rw [sless_irr] at h; cases h

/-! ### Pigeonholes -/
theorem nodup_len {β : Type} : ∀ (a l : List β), a.Nodup → (∀ x ∈ a, x ∈ l) → a.length ≤ l.length
  | [], l, _, _ => Nat.zero_le _
  | x :: r, l, hn, hs => by
    classical
    have hx : x ∈ l := hs x (List.mem_cons_self ..)
    have hn := List.nodup_cons.1 hn
    have h := nodup_len r (l.erase x) hn.2 (fun y hy => (List.mem_erase_of_ne (fun e => hn.1 (by rw [← e]; exact hy))).2 (hs y (List.mem_cons_of_mem _ hy)))
    rw [List.length_erase_of_mem hx] at h
    have : 0 < l.length := List.length_pos_of_mem hx
    rw [List.length_cons]; omega
theorem pig {β : Type} (l : List β) (f : Nat → β) (h : ∀ k, k ≤ l.length → f k ∈ l) : ∃ p q, p < q ∧ q ≤ l.length ∧ f p = f q := by
  apply Classical.byContradiction
  intro hc
  have hn : ((List.range (l.length + 1)).map f).Nodup := by
    rw [List.Nodup, List.pairwise_iff_getElem]
    intro i j hi hj hij e
    simp only [List.length_map, List.length_range] at hi hj
    simp only [List.getElem_map, List.getElem_range] at e
    exact hc ⟨i, j, hij, by omega, e⟩
  have := nodup_len _ l hn (fun x hx => by
    obtain ⟨k, hk, rfl⟩ := List.mem_map.1 hx
    exact h k (by have := List.mem_range.1 hk; omega))
  simp only [List.length_map, List.length_range] at this
  omega
end Go.Pv
/- Maps with strings as keys, in laws. -/
namespace Go.Pv
open Go

section
variable {α β : Type}
/-- A map as a list of keys with what stands there. -/
def smap (f : β → MV) (l : List (ByteArray × β)) : List (MKey × MV) := l.map fun x => (.str x.1, f x.2)
def aget : List (ByteArray × β) → ByteArray → Option β
  | [], _ => none
  | x :: r, k => if k = x.1 then some x.2 else aget r k
def aset : List (ByteArray × β) → ByteArray → β → List (ByteArray × β)
  | [], k, v => [(k, v)]
  | x :: r, k, v => if k = x.1 then (k, v) :: r else x :: aset r k v
@[simp] theorem smap_len (f : β → MV) (l : List (ByteArray × β)) : (smap f l).length = l.length := by simp [smap]
theorem kOk_smap (f : β → MV) (l : List (ByteArray × β)) (k : ByteArray) : kOkM (smap f l) (.str k) = true := by
  cases l <;> rfl
theorem gK_smap (f : β → MV) (l : List (ByteArray × β)) (k : ByteArray) (o : Option α) : gK (smap f l) (.str k) o = o := by
  unfold gK; rw [kOk_smap]
theorem mfind_smap (f : β → MV) : ∀ (l : List (ByteArray × β)) (k : ByteArray) (i : Nat), (mfind (smap f l) (.str k) i).map (·.2) = (aget l k).map f
  | [], k, i => rfl
  | x :: r, k, i => by
    show Option.map _ (if (MKey.str k) = .str x.1 then _ else mfind (smap f r) (.str k) (i + 1)) = Option.map f (if k = x.1 then _ else _)
    by_cases h : k = x.1
    · rw [if_pos h, if_pos (by rw [h])]; rfl
    · rw [if_neg h, if_neg (fun e => h (by injection e)), mfind_smap f r k (i + 1)]
theorem mget_smap (f : β → MV) (l : List (ByteArray × β)) (k : ByteArray) : mget (smap f l) (.str k) = (aget l k).map f := mfind_smap f l k 0
theorem mgE_smap (f : β → MV) (l : List (ByteArray × β)) (k : ByteArray) (z : MV) (K : Bool → MV → Option α) : mgE (smap f l) (.str k) z K = match aget l k with | some v => K true (f v) | none => K false z := by
  unfold mgE; rw [mget_smap]; cases aget l k <;> rfl
theorem mset_smap (f : β → MV) : ∀ (l : List (ByteArray × β)) (k : ByteArray) (v : β), mset (smap f l) (.str k) (f v) = smap f (aset l k v)
  | [], k, v => rfl
  | x :: r, k, v => by
    show (if (MKey.str k) = .str x.1 then _ else _ :: mset (smap f r) (.str k) (f v)) = smap f (if k = x.1 then _ else _)
    by_cases h : k = x.1
    · rw [if_pos h, if_pos (by rw [h])]; rfl
    · rw [if_neg h, if_neg (fun e => h (by injection e)), mset_smap f r k v]; rfl
theorem aget_aset : ∀ (l : List (ByteArray × β)) (k : ByteArray) (v : β) (k' : ByteArray), aget (aset l k v) k' = if k' = k then some v else aget l k'
  | [], k, v, k' => rfl
  | x :: r, k, v, k' => by
    unfold aset
    by_cases h : k = x.1
    · rw [if_pos h]
      show (if k' = k then some v else aget r k') = if k' = k then some v else (if k' = x.1 then some x.2 else aget r k')
      by_cases h' : k' = k
      · rw [if_pos h', if_pos h']
      · rw [if_neg h', if_neg h', if_neg (fun e => h' (by rw [e, h]))]
    · rw [if_neg h]
      show (if k' = x.1 then some x.2 else aget (aset r k v) k') = if k' = k then some v else (if k' = x.1 then some x.2 else aget r k')
      rw [aget_aset r k v k']
      by_cases h' : k' = x.1
      · rw [if_pos h', if_neg (fun e => h (by rw [← e, h'])), if_pos h']
      · rw [if_neg h', if_neg h']
/-- The keys. -/
def akeys (l : List (ByteArray × β)) : List ByteArray := l.map (·.1)
theorem akeys_aset : ∀ (l : List (ByteArray × β)) (k : ByteArray) (v : β), akeys (aset l k v) = if (aget l k).isSome = true then akeys l else akeys l ++ [k]
  | [], k, v => rfl
  | x :: r, k, v => by
    unfold aset aget
    by_cases h : k = x.1
    · rw [if_pos h, if_pos h]; subst h; simp [akeys]
    · rw [if_neg h, if_neg h]
      show x.1 :: akeys (aset r k v) = _
      rw [akeys_aset r k v]
      split <;> rfl
end
end Go.Pv
/- Chapter 1, plain: what is above an item, both ways. -/
namespace Go.Pv
open Go

/-- The item with an Id. -/
def itm (l : List Item) (id : ByteArray) : Option Item := l.find? fun x => decide (x.id = id)
def parO (g : ByteArray → Option Item) (x : Item) : Option Item := if x.parent = ⟨#[]⟩ then none else g x.parent
/-- What is so many steps above. -/
def itU (g : ByteArray → Option Item) : Nat → Item → Option Item
  | 0, x => some x
  | k + 1, x => (parO g x).bind (itU g k)
/-- What is above, up to so many. -/
def anc (g : ByteArray → Option Item) : Nat → Item → List Item
  | 0, _ => []
  | k + 1, x => match parO g x with
    | some p => p :: anc g k p
    | none => []
section
variable {g : ByteArray → Option Item}
theorem itU_add : ∀ (a b : Nat) (x : Item), itU g (a + b) x = (itU g a x).bind (itU g b)
  | 0, b, x => by simp [itU]
  | a + 1, b, x => by
    rw [show a + 1 + b = (a + b) + 1 by omega, itU, itU]
    cases parO g x with
    | none => rfl
    | some p => exact itU_add a b p
theorem anc_get : ∀ (k j : Nat) (x : Item), (anc g k x)[j]? = if j < k then itU g (j + 1) x else none
  | 0, j, x => by simp [anc]
  | k + 1, j, x => by
    rw [anc, itU]
    cases parO g x with
    | none => simp
    | some p =>
      cases j with
      | zero => simp [itU]
      | succ j => simp [anc_get k j p]
theorem anc_mem {k : Nat} {x y : Item} : y ∈ anc g k x ↔ ∃ j, j < k ∧ itU g (j + 1) x = some y := by
  rw [List.mem_iff_getElem?]
  constructor
  · rintro ⟨j, h⟩
    rw [anc_get] at h
    split at h
    · exact ⟨j, ‹_›, h⟩
    · cases h
  · rintro ⟨j, h1, h2⟩
    exact ⟨j, by rw [anc_get, if_pos h1, h2]⟩
theorem anc_len (k : Nat) (x : Item) : (anc g k x).length ≤ k := by
  induction k generalizing x with
  | zero => simp [anc]
  | succ k ih =>
    rw [anc]
    split
    · have := ih ‹Item›; simp; omega
    · simp
theorem itU_pre {a b : Nat} (h : a ≤ b) {x y : Item} (hy : itU g b x = some y) : ∃ z, itU g a x = some z := by
  rw [show b = a + (b - a) by omega, itU_add] at hy
  cases e : itU g a x with
  | none => rw [e] at hy; cases hy
  | some z => exact ⟨z, rfl⟩
theorem anc_stop : ∀ (k : Nat) (x : Item), itU g (k + 1) x = none → anc g (k + 1) x = anc g k x
  | 0, x, h => by
    rw [itU] at h
    cases e : parO g x with
    | none => simp [anc, e]
    | some p => rw [e] at h; cases h
  | k + 1, x, h => by
    rw [itU] at h
    rw [anc, anc]
    cases e : parO g x with
    | none => rfl
    | some p =>
      rw [e] at h
      simp only
      rw [anc_stop k p h]
/-- Keys lead to items of a list; each item once. -/
structure Fam (g : ByteArray → Option Item) (l : List Item) : Prop where
  mem : ∀ {id y}, g id = some y → y ∈ l ∧ y.id = id
  get : ∀ x ∈ l, g x.id = some x
variable {l : List Item}
theorem itU_mem (hF : Fam g l) : ∀ {k : Nat} {x y : Item}, x ∈ l → itU g k x = some y → y ∈ l
  | 0, x, y, hx, h => by cases h; exact hx
  | k + 1, x, y, hx, h => by
    rw [itU] at h
    cases e : parO g x with
    | none => rw [e] at h; cases h
    | some p =>
      rw [e] at h
      unfold parO at e
      split at e
      · cases e
      · exact itU_mem hF (hF.mem e).1 h
theorem itU_pig (hF : Fam g l) {x z : Item} (hx : x ∈ l) (h : itU g l.length x = some z) : ∃ p q y, p < q ∧ q ≤ l.length ∧ itU g p x = some y ∧ itU g q x = some y ∧ y ∈ l := by
  have hs : ∀ k, k ≤ l.length → ∃ y, itU g k x = some y := fun k hk => itU_pre hk h
  obtain ⟨p, q, h1, h2, h3⟩ := pig l (fun k => (itU g k x).getD x) (fun k hk => by
    obtain ⟨y, hy⟩ := hs k hk
    simp only [hy, Option.getD_some]
    exact itU_mem hF hx hy)
  obtain ⟨y, hy⟩ := hs p (by omega)
  obtain ⟨y', hy'⟩ := hs q h2
  simp only [hy, hy', Option.getD_some] at h3
  subst h3
  exact ⟨p, q, y, h1, h2, hy, hy', itU_mem hF hx hy⟩
/-- Who comes back to itself does so within as many steps as there are items. -/
theorem ret_early (hF : Fam g l) {x : Item} (hx : x ∈ l) : ∀ (j : Nat), itU g (j + 1) x = some x → ∃ j', j' < l.length ∧ itU g (j' + 1) x = some x := by
  intro j
  induction j using Nat.strongRecOn with
  | ind j ih =>
    intro h
    by_cases hj : j < l.length
    · exact ⟨j, hj, h⟩
    · obtain ⟨z, hz⟩ := itU_pre (show l.length ≤ j + 1 by omega) h
      obtain ⟨p, q, y, h1, h2, h3, h4, _⟩ := itU_pig hF hx hz
      have e : itU g (p + (j + 1 - q)) x = some x := by
        rw [itU_add, h3, ← h4, ← itU_add, show q + (j + 1 - q) = j + 1 by omega]; exact h
      obtain ⟨r, hr⟩ : ∃ r, p + (j + 1 - q) = r + 1 := ⟨p + (j + 1 - q) - 1, by omega⟩
      rw [hr] at e
      exact ih r (by omega) e
/-- Where nothing comes back, all ways end. -/
theorem no_ret (hF : Fam g l) (hn : ∀ x ∈ l, ∀ j, j < l.length → itU g (j + 1) x ≠ some x) {x : Item} (hx : x ∈ l) : itU g l.length x = none := by
  cases e : itU g l.length x with
  | none => rfl
  | some z =>
    obtain ⟨p, q, y, h1, h2, h3, h4, hy⟩ := itU_pig hF hx e
    have h5 : itU g (q - p) y = some y := by
      have := itU_add (g := g) p (q - p) x
      rw [show p + (q - p) = q by omega, h3, h4] at this
      exact this.symm
    obtain ⟨r, hr⟩ : ∃ r, q - p = r + 1 := ⟨q - p - 1, by omega⟩
    rw [hr] at h5
    exact absurd h5 (hn y hy r (by omega))
/-! ### As the program goes -/
def paF (g : ByteArray → Option Item) (id : ByteArray) : Nat → Int → Item → Int × Bool
  | 0, n, _ => (n, false)
  | m + 1, n, y => match parO g y with
    | none => (n, false)
    | some p => if p.id = id then (n + 1, true) else paF g id m (n + 1) p
theorem paF_loop (id : ByteArray) : ∀ (m : Nat) (n : Int) (y : Item), (paF g id m n y).2 = (anc g m y).any fun p => decide (p.id = id)
  | 0, n, y => rfl
  | m + 1, n, y => by
    rw [paF, anc]
    cases parO g y with
    | none => rfl
    | some p =>
      simp only [List.any_cons]
      by_cases h : p.id = id
      · rw [if_pos h, decide_eq_true h]; rfl
      · rw [if_neg h, decide_eq_false h, Bool.false_or]; exact paF_loop id m (n + 1) p
theorem paF_n (id : ByteArray) : ∀ (m : Nat) (n : Int) (y : Item), (paF g id m n y).2 = false → (paF g id m n y).1 = n + (anc g m y).length
  | 0, n, y, _ => by simp [paF, anc]
  | m + 1, n, y, h => by
    rw [paF] at h ⊢
    rw [anc]
    cases e : parO g y with
    | none => simp
    | some p =>
      rw [e] at h
      simp only at h ⊢
      by_cases h1 : p.id = id
      · rw [if_pos h1] at h; cases h
      · rw [if_neg h1] at h ⊢
        rw [paF_n id m (n + 1) p h, List.length_cons]; omega
end
/-! ### As the reference goes -/
theorem itm_plc (l : List Item) (id : ByteArray) : (plc l id = -1 ∧ itm l id = none) ∨ ∃ (k : Nat) (y : Item), plc l id = k ∧ l[k]? = some y ∧ itm l id = some y ∧ y.id = id := by
  rcases fIx_find (fun x : Item => decide (x.id = id)) l 0 with ⟨h1, h2⟩ | ⟨k, x, h1, h2, h3⟩
  · exact .inl ⟨h1, h2⟩
  · refine .inr ⟨k, x, by unfold plc; rw [h1]; simp, h2, h3, ?_⟩
    have := List.find?_some h3
    simpa using this
theorem abvF_anc (l : List Item) : ∀ (m : Nat) (out : List Int) (x : Item), out.length + m = l.length + 1 → (abvF l (!decide (x.parent = ⟨#[]⟩)) m out (plc l x.parent)).1 = out ++ (anc (itm l) m x).map fun y => plc l y.id
  | 0, out, x, h => by simp [abvF, anc]
  | m + 1, out, x, h => by
    rw [abvF, anc]
    unfold parO
    by_cases hp : x.parent = ⟨#[]⟩
    · rw [if_pos hp, decide_eq_true hp]; simp
    · rw [if_neg hp, decide_eq_false hp]
      rcases itm_plc l x.parent with ⟨h1, h2⟩ | ⟨k, y, h1, h2, h3, h4⟩
      · rw [h1, h2]; simp
      · rw [h1, h3, if_pos (by simp), Int.toNat_natCast, h2]
        simp only [List.map_cons, h4, h1]
        by_cases hl : l.length < (out ++ [(k : Int)]).length
        · rw [if_pos hl]
          have : m = 0 := by simp at hl; omega
          subst this
          simp [anc]
        · rw [if_neg hl]
          by_cases hq : y.parent = ⟨#[]⟩
          · rw [if_pos hq]
            cases m with
            | zero => simp [anc]
            | succ m => simp [anc, parO, hq]
          · rw [if_neg hq]
            have ih := abvF_anc l m (out ++ [(k : Int)]) y (by simp; omega)
            rw [decide_eq_false hq] at ih
            simp only [Bool.not_false] at ih ⊢
            rw [ih]; simp
theorem abv_anc (l : List Item) (i : Nat) (x : Item) (hx : l[i]? = some x) : (abv l i).1 = (anc (itm l) (l.length + 1) x).map fun y => plc l y.id := by
  unfold abv
  rw [hx]
  have := abvF_anc l (l.length + 1) [] x (by simp)
  simpa using this
/-! ### Both -/
def DistI (l : List Item) : Prop := l.Pairwise fun x y => x.id ≠ y.id
theorem plc_at {l : List Item} (hd : DistI l) {i : Nat} {x : Item} (hx : l[i]? = some x) : plc l x.id = i := by
  rcases itm_plc l x.id with ⟨h1, h2⟩ | ⟨k, y, h1, h2, h3, h4⟩
  · have := List.find?_eq_none.1 h2 x (List.mem_of_getElem? hx)
    simp at this
  · rw [h1]
    obtain ⟨hi, ei⟩ := List.getElem?_eq_some_iff.1 hx
    obtain ⟨hk, ek⟩ := List.getElem?_eq_some_iff.1 h2
    rcases Nat.lt_trichotomy k i with h | h | h
    · have := List.pairwise_iff_getElem.1 hd k i hk hi h
      rw [ei, ek] at this; exact absurd h4 this
    · rw [h]
    · have := List.pairwise_iff_getElem.1 hd i k hi hk h
      rw [ei, ek] at this; exact absurd h4.symm this
theorem fam_itm {l : List Item} (hd : DistI l) : Fam (itm l) l := by
  refine ⟨fun {id y} h => ?_, fun x hx => ?_⟩
  · have h1 := List.mem_of_find?_eq_some h
    have h2 := List.find?_some h
    exact ⟨h1, by simpa using h2⟩
  · obtain ⟨i, hi⟩ := List.mem_iff_getElem?.1 hx
    rcases itm_plc l x.id with ⟨h1, h2⟩ | ⟨k, y, h1, h2, h3, h4⟩
    · rw [plc_at hd hi] at h1; omega
    · rw [plc_at hd hi] at h1
      have : i = k := by omega
      subst this
      rw [hi] at h2; cases h2; exact h3
theorem ret_eq {l : List Item} (hd : DistI l) {i : Nat} {x : Item} (hx : l[i]? = some x) : retB l i = (paF (itm l) x.id l.length 0 x).2 := by
  have hF := fam_itm hd
  have hm := List.mem_of_getElem? hx
  unfold retB
  rw [abv_anc l i x hx, paF_loop, Bool.eq_iff_iff, List.any_eq_true, List.any_eq_true]
  have key : ∀ y, y ∈ l → ((i : Int) = plc l y.id ↔ y = x) := by
    intro y hy
    obtain ⟨k, hk⟩ := List.mem_iff_getElem?.1 hy
    rw [plc_at hd hk]
    constructor
    · intro h
      have : i = k := by omega
      subst this; rw [hx] at hk; cases hk; rfl
    · intro h; subst h
      have := plc_at hd hk
      rw [plc_at hd hx] at this; exact this
  constructor
  · rintro ⟨v, hv, h⟩
    obtain ⟨y, hy, rfl⟩ := List.mem_map.1 hv
    obtain ⟨j, hj, hjy⟩ := anc_mem.1 hy
    have := (key y (itU_mem hF hm hjy)).1 (of_decide_eq_true h)
    subst this
    obtain ⟨j', h1, h2⟩ := ret_early hF hm j hjy
    exact ⟨y, anc_mem.2 ⟨j', h1, h2⟩, decide_eq_true rfl⟩
  · rintro ⟨y, hy, h⟩
    have h := of_decide_eq_true h
    obtain ⟨j, hj, hjy⟩ := anc_mem.1 hy
    have hyl := itU_mem hF hm hjy
    have e : y = x := by
      have h1 := hF.get y hyl
      rw [h, hF.get x hm] at h1; cases h1; rfl
    subst e
    refine ⟨plc l y.id, List.mem_map.2 ⟨y, anc_mem.2 ⟨j, by omega, hjy⟩, rfl⟩, ?_⟩
    exact decide_eq_true ((key y hm).2 rfl)
theorem abv_n {l : List Item} (hd : DistI l) (hn : ∀ (i : Nat), i < l.length → retB l i = false) {i : Nat} {x : Item} (hx : l[i]? = some x) : ((abv l i).1.length : Int) = (paF (itm l) x.id l.length 0 x).1 := by
  have hF := fam_itm hd
  have hm := List.mem_of_getElem? hx
  have hno : ∀ y ∈ l, ∀ j, j < l.length → itU (itm l) (j + 1) y ≠ some y := by
    intro y hy j hj h
    obtain ⟨k, hk⟩ := List.mem_iff_getElem?.1 hy
    have hkl := (List.getElem?_eq_some_iff.1 hk).1
    have := hn k hkl
    rw [ret_eq hd hk, paF_loop] at this
    have h2 : ((anc (itm l) l.length y).any fun p => decide (p.id = y.id)) = true := List.any_eq_true.2 ⟨y, anc_mem.2 ⟨j, hj, h⟩, decide_eq_true rfl⟩
    rw [this] at h2; cases h2
  have hl : (paF (itm l) x.id l.length 0 x).2 = false := by
    rw [← ret_eq hd hx]; exact hn i (List.getElem?_eq_some_iff.1 hx).1
  rw [paF_n _ _ _ _ hl, abv_anc l i x hx, List.length_map]
  have e0 := no_ret hF hno hm
  have e1 : itU (itm l) (l.length + 1) x = none := by
    rw [itU_add, e0]; rfl
  rw [anc_stop _ _ e1]; omega
end Go.Pv
/- Digests: both sides are sixteen digits of the same number. -/
namespace Go.Pv
open Go Go.Proofs

/-! ### Plain: hexadecimal numbers -/
/-! ### One step -/
/-! ### The reference -/
/-! ### The program -/
theorem w1 {i : Nat} (h : i < 1000) : IntKind.i64.wrap (((i + 1 : Nat) : Int) - 1) = (i : Int) := by rw [w64 (by omega) (by omega)]; omega
end Go.Pv
/- Chapter 1: the program's checks of items together. -/
namespace Go.Pv
open Go Go.Proofs

def itemM (x : Item) : MV := .agg (itemC x)
def item0 : Item := ⟨ByteArray.empty, ByteArray.empty, 0, ByteArray.empty, 0, ByteArray.empty, ByteArray.empty⟩
section
variable {α : Type}
/-- What a map has of items. -/
theorem mgItem (M : List (ByteArray × Item)) (k : ByteArray) (K : Bool → ByteArray → ByteArray → Int → ByteArray → Int → ByteArray → ByteArray → Option α) :
    mgE (smap itemM M) (.str k) (.agg [.str ByteArray.empty, .str ByteArray.empty, .int .i64 (0 : Int), .str ByteArray.empty, .int .i64 (0 : Int), .str ByteArray.empty, .str ByteArray.empty]) (fun b m24 => (dA m24 fun c25 => (unC c25 fun m26 c27 => (dS m26 fun x28 => (unC c27 fun m29 c30 => (dS m29 fun x31 => (unC c30 fun m32 c33 => (dI .i64 m32 fun x34 => (unC c33 fun m35 c36 => (dS m35 fun x37 => (unC c36 fun m38 c39 => (dI .i64 m38 fun x40 => (unC c39 fun m41 c42 => (dS m41 fun x43 => (unC c42 fun m44 c45 => (dS m44 fun x46 => (unN c45 (K b x28 x31 x34 x37 x40 x43 x46)))))))))))))))))) =
      K (aget M k).isSome ((aget M k).getD item0).id ((aget M k).getD item0).cust ((aget M k).getD item0).kind ((aget M k).getD item0).name ((aget M k).getD item0).at_ ((aget M k).getD item0).parent ((aget M k).getD item0).text := by
  rw [mgE_smap]
  cases aget M k with
  | none => simp only [dA_agg, unC_cons, dS_str, dI_int, unN_nil, Option.isSome_none, Option.getD_none]; rfl
  | some x => simp only [itemM, itemC, dA_agg, unC_cons, dS_str, dI_int, unN_nil, Option.isSome_some, Option.getD_some]
theorem skItem (l : List (List MV)) (a : Int) (x : Item) (K : List (List MV) → Int → ByteArray → ByteArray → Int → ByteArray → Int → ByteArray → ByteArray → Option α) :
    (callE (some ([.agg (itemC x)], [some (.box [.list l, .int .i64 a])])) fun r38 B39 => (unX B39 fun o40 B41 => (dBx o40 fun c42 => (unC c42 fun m43 c44 => (dL m43 fun x45 => (unC c44 fun m46 c47 => (dI .i64 m46 fun x48 => (unN c47 (unXN B41 (unC r38 fun m49 r50 => (dA m49 fun c51 => (unC c51 fun m52 c53 => (dS m52 fun x54 => (unC c53 fun m55 c56 => (dS m55 fun x57 => (unC c56 fun m58 c59 => (dI .i64 m58 fun x60 => (unC c59 fun m61 c62 => (dS m61 fun x63 => (unC c62 fun m64 c65 => (dI .i64 m64 fun x66 => (unC c65 fun m67 c68 => (dS m67 fun x69 => (unC c68 fun m70 c71 => (dS m70 fun x72 => (unN c71 (unN r50 (K x45 x48 x54 x57 x60 x63 x66 x69 x72)))))))))))))))))))))))))))) =
      K l a x.id x.cust x.kind x.name x.at_ x.parent x.text := by
  simp only [callE_some', itemC, unX_cons, dBx_box, unC_cons, dL_list, dI_int, dS_str, dA_agg, unN_nil, unXN_nil]
end

/-! ### byId -/
def byIdF : List Item → List (ByteArray × Item) → List (ByteArray × Item)
  | [], M => M
  | x :: r, M => byIdF r (aset M x.id x)
def byIdL (l : List Item) : List (ByteArray × Item) := byIdF l []
theorem byId_L1 (fu n : Nat) (l : List Item) (hl : l.length ≤ 400000) : ∀ (m i k : Nat) (M : List (ByteArray × Item)), i + m = l.length → m < k →
    intake_byId_L1 fu n k (smap itemM M) (l.map itemC) (l.length : Nat) (i : Nat) = some ([.map (smap itemM (byIdF (l.drop i) M))], [])
  | m, i, 0, M, hi, hk => by omega
  | 0, i, k + 1, M, hi, hk => by
    rw [intake_byId_L1_eq, cnd_decide, if_neg (by omega), List.drop_of_length_le (by omega)]; rfl
  | m + 1, i, k + 1, M, hi, hk => by
    have hlt : i < l.length := by omega
    rw [intake_byId_L1_eq, cnd_decide, if_pos (by omega), rdItem hlt, gK_smap, i64s (by omega), List.drop_eq_getElem_cons hlt, byIdF]
    have e := mset_smap itemM M l[i].id l[i]
    unfold itemM itemC at e
    have ih := byId_L1 fu n l hl m (i + 1) k (aset M l[i].id l[i]) (by omega) (by omega)
    rw [← ih]
    congr 1
theorem byId_ok (fu n : Nat) (l : List Item) (hl : l.length ≤ 400000) (hfu : 1000000 ≤ fu) : ev fu (n + 1) 64 [.list (l.map itemC)] [] = some ([.map (smap itemM (byIdL l))], []) := by
  rw [intake_byId_eq, List.length_map]
  have := byId_L1 fu n l hl l.length 0 fu [] (by omega) (by omega)
  exact this
theorem byIdF_get : ∀ (l : List Item) (M : List (ByteArray × Item)) (k : ByteArray), DistI l → aget (byIdF l M) k = (match itm l k with | some y => some y | none => aget M k)
  | [], M, k, _ => rfl
  | x :: r, M, k, hd => by
    have hp := List.pairwise_cons.1 hd
    rw [byIdF, byIdF_get r _ k hp.2]
    show _ = match (List.find? (fun x => decide (x.id = k)) (x :: r)) with | some y => some y | none => aget M k
    rw [List.find?_cons, aget_aset]
    by_cases h : x.id = k
    · rw [decide_eq_true h]
      have : itm r k = none := by
        unfold itm
        rw [List.find?_eq_none]
        intro y hy
        have := hp.1 y hy
        rw [h] at this
        simpa using fun e => this e.symm
      rw [this]
      simp only [if_pos h.symm]
    · rw [decide_eq_false h]
      simp only [if_neg (fun e => h (Eq.symm e))]
      rfl
theorem byId_get {l : List Item} (hd : DistI l) : aget (byIdL l) = itm l := by
  funext k
  unfold byIdL
  rw [byIdF_get l [] k hd]
  cases itm l k <;> rfl
theorem byIdF_len : ∀ (l : List Item) (M : List (ByteArray × Item)), DistI l → (∀ x ∈ l, aget M x.id = none) → (byIdF l M).length = M.length + l.length
  | [], M, _, _ => rfl
  | x :: r, M, hd, hn => by
    have hp := List.pairwise_cons.1 hd
    rw [byIdF, byIdF_len r _ hp.2 (fun y hy => by
      rw [aget_aset, if_neg (fun e => hp.1 y hy e.symm)]
      exact hn y (List.mem_cons_of_mem _ hy))]
    have h := congrArg List.length (akeys_aset M x.id x)
    rw [hn x (List.mem_cons_self ..)] at h
    simp [akeys] at h
    rw [h, List.length_cons]; omega
theorem byId_len {l : List Item} (hd : DistI l) : (byIdL l).length = l.length := by
  unfold byIdL
  have := byIdF_len l [] hd (fun _ _ => rfl)
  simpa using this

/-! ### above, placed -/
theorem Pabove_L1 (fu n : Nat) (M : List (ByteArray × Item)) (x : Item) (N : Nat) (hN : N ≤ 1000000) : ∀ (m i k c : Nat) (y : Item), i + m = N → m < k → c ≤ i →
    intake_above_L1 fu n k (smap itemM M) x.id x.cust x.kind x.name x.at_ x.parent x.text (c : Nat) (N : Nat) (i : Nat) y.id y.cust y.kind y.name y.at_ y.parent y.text = some ([.int .i64 (paF (aget M) x.id m (c : Nat) y).1, .bool (paF (aget M) x.id m (c : Nat) y).2], [])
  | m, i, 0, c, y, hi, hk, hc => by omega
  | 0, i, k + 1, c, y, hi, hk, hc => by
    rw [intake_above_L1_eq, cnd_decide, if_neg (by omega)]; rfl
  | m + 1, i, k + 1, c, y, hi, hk, hc => by
    rw [intake_above_L1_eq, cnd_decide, if_pos (by omega), gK_smap, mgItem, paF]
    unfold parO
    by_cases hp : y.parent = ⟨#[]⟩
    · rw [if_pos hp, decide_eq_true hp, cnd_true]
      cases (aget M y.parent).isSome <;> rfl
    · rw [if_neg hp, decide_eq_false hp, cnd_false]
      cases e : aget M y.parent with
      | none => rfl
      | some p =>
        rw [Option.isSome_some, Bool.not_true, cnd_false, Option.getD_some, cnd_decide, i64s (by omega), i64s (by omega)]
        simp only
        by_cases h : p.id = x.id
        · rw [if_pos h, if_pos h]; rfl
        · rw [if_neg h, if_neg h]
          exact Pabove_L1 fu n M x N hN m (i + 1) k (c + 1) p (by omega) (by omega) (by omega)
theorem Pabove_ok (fu n : Nat) (M : List (ByteArray × Item)) (hM : M.length ≤ 400000) (x : Item) (hfu : 1000000 ≤ fu) : ev fu (n + 1) 65 [.map (smap itemM M), .agg (itemC x)] [] = some ([.int .i64 (paF (aget M) x.id M.length 0 x).1, .bool (paF (aget M) x.id M.length 0 x).2], []) := by
  unfold itemC
  rw [intake_above_eq, smap_len]
  exact Pabove_L1 fu n M x M.length (by omega) M.length 0 fu 0 x (by omega) (by omega) (by omega)
def pkE (g : ByteArray → Option Item) (x : Item) : Int := if (!decide (x.parent = ⟨#[]⟩) && ((g x.parent).isSome && (!decide (((g x.parent).getD item0).kind = 1) && !decide (((g x.parent).getD item0).kind = 3)))) = true then 16 else 0
theorem placed_ok (fu n : Nat) (M : List (ByteArray × Item)) (hM : M.length ≤ 400000) (x : Item) (hfu : 1000000 ≤ fu) : ev fu (n + 2) 66 [.map (smap itemM M), .agg (itemC x)] [] = some ([.int .i64 (fnz [pkE (aget M) x, if decide (4 < (paF (aget M) x.id M.length 0 x).1) = true then 2 else 0])], []) := by
  have h := Pabove_ok fu n M hM x hfu
  unfold itemC at h ⊢
  rw [intake_placed_eq, gK_smap, mgItem, out_fnz]
  have e : ∀ o : Out, cnd (!decide (x.parent = (⟨#[]⟩ : ByteArray))) (cnd (aget M x.parent).isSome (cnd (!decide (((aget M x.parent).getD item0).kind = 1)) (cnd (!decide (((aget M x.parent).getD item0).kind = 3)) (some ([.int .i64 (16 : Int)], [])) o) o) o) o = errO (pkE (aget M) x) o := by
    intro o
    unfold pkE
    cases decide (x.parent = (⟨#[]⟩ : ByteArray)) <;> cases (aget M x.parent).isSome <;> cases decide (((aget M x.parent).getD item0).kind = 1) <;> cases decide (((aget M x.parent).getD item0).kind = 3) <;> rfl
  rw [h]
  simp only [callE_some', unXN_nil, unC_cons, dI_int, dB_bool, unN_nil, When_ok, rI_some]
  rw [e]
  congr 2
  cases decide (4 < (paF (aget M) x.id M.length 0 x).1) <;> rfl
theorem parK_eq (l : List Item) (x : Item) : parK l x = pkE (itm l) x := by
  unfold parK pkE
  rcases itm_plc l x.parent with ⟨h1, h2⟩ | ⟨k, y, h1, h2, h3, h4⟩
  · rw [h1, h2]
    have e : decide ((0 : Int) ≤ -1) = false := rfl
    rw [e]
    split <;> simp
  · rw [h1, h3, Int.toNat_natCast, h2]
    have e : decide ((0 : Int) ≤ (k : Int)) = true := decide_eq_true (by omega)
    simp only [e, Option.isSome_some, Option.getD_some]

/-! ### In order -/
def prevI (l : List Item) (i : Nat) (x : Item) : Int := if 0 < i then (match l[i - 1]? with
  | some p => if (sless x.id p.id || decide (x.id = p.id)) = true then 7 else 0
  | none => 0) else 0
def lastId (l : List Item) (i : Nat) : ByteArray := if 0 < i then (match l[i - 1]? with
  | some p => p.id
  | none => ⟨#[]⟩) else ⟨#[]⟩
theorem itE_key {x : Item} (h : itE x = 0) : keyS x.id = true := by
  have := fnz0 _ h (if (!keyS x.id) = true then 5 else 0) (List.mem_cons_self ..)
  have := if_zero this (by decide)
  cases hk : keyS x.id with
  | true => rfl
  | false => rw [hk] at this; cases this
theorem items_same (l : List Item) : ∀ (m i : Nat), i + m = l.length →
    (errL (σ := Unit) (fun i _ x => fnz [itE x, prevI l i x]) (fun _ s _ => s) i () (l.drop i)).1 = (errL (fun _ last x => fnz [itE x, if (sless x.id last || decide (x.id = last)) = true then 7 else 0]) (fun _ _ x => x.id) i (lastId l i) (l.drop i)).1
  | 0, i, hi => by rw [List.drop_of_length_le (by omega)]; rfl
  | m + 1, i, hi => by
    have hlt : i < l.length := by omega
    have ih := items_same l m (i + 1) (by omega)
    rw [List.drop_eq_getElem_cons hlt, errL, errL]
    have e : fnz [itE l[i], prevI l i l[i]] = fnz [itE l[i], if (sless l[i].id (lastId l i) || decide (l[i].id = lastId l i)) = true then 7 else 0] := by
      unfold prevI lastId
      by_cases h0 : 0 < i
      · have hg : l[i - 1]? = some l[i - 1] := List.getElem?_eq_getElem (by omega)
        simp only [if_pos h0, hg]
      · simp only [if_neg h0]
        rw [sless_nil, Bool.false_or]
        by_cases h1 : itE l[i] = 0
        · rw [decide_eq_false (keyS_ne (itE_key h1))]; rfl
        · unfold fnz; rw [if_neg h1, if_neg h1]
    have el : lastId l (i + 1) = l[i].id := by
      unfold lastId
      rw [if_pos (by omega)]
      have hg : l[i + 1 - 1]? = some l[i] := by rw [Nat.add_sub_cancel]; exact List.getElem?_eq_getElem hlt
      rw [hg]
    rw [e]
    generalize fnz [itE l[i], if (sless l[i].id (lastId l i) || decide (l[i].id = lastId l i)) = true then 7 else 0] = z
    by_cases hz : z = 0
    · rw [if_pos hz, if_pos hz, ih, el]
    · rw [if_neg hz, if_neg hz]
theorem errO_two (a b : Int) : errO a (some ([.int .i64 b], [])) = some ([.int .i64 (fnz [a, b])], []) := by
  unfold errO
  simp only [fnz]
  by_cases h : a = 0
  · rw [if_pos h, if_pos h]
    by_cases h2 : b = 0
    · rw [if_pos h2, h2]
    · rw [if_neg h2]
  · rw [if_neg h, if_neg h]
/-- Keys that rise. -/
theorem rise_ok {β : Type} (key : β → ByteArray) (e : β → Int) : ∀ (l : List β) (i : Nat) (last : ByteArray), (errL (fun _ last x => fnz [e x, if (sless (key x) last || decide (key x = last)) = true then 7 else 0]) (fun _ _ x => key x) i last l).1 = 0 →
    (∀ x ∈ l, sless last (key x) = true ∧ e x = 0) ∧ l.Pairwise fun x y => sless (key x) (key y) = true
  | [], i, last, h => ⟨by simp, List.Pairwise.nil⟩
  | x :: r, i, last, h => by
    rw [errL] at h
    by_cases h0 : fnz [e x, if (sless (key x) last || decide (key x = last)) = true then 7 else 0] = 0
    · rw [if_pos h0] at h
      obtain ⟨h1, h2⟩ := rise_ok key e r (i + 1) (key x) h
      have hx := fnz0 _ h0 (e x) (by simp)
      have hs := if_zero (fnz0 _ h0 (if (sless (key x) last || decide (key x = last)) = true then 7 else 0) (by simp)) (by decide)
      rw [Bool.or_eq_false_iff] at hs
      have hs' := sless_tri hs.1 (of_decide_eq_false hs.2)
      refine ⟨fun y hy => ?_, List.pairwise_cons.2 ⟨fun y hy => (h1 y hy).1, h2⟩⟩
      rcases List.mem_cons.1 hy with rfl | hy
      · exact ⟨hs', hx⟩
      · exact ⟨sless_trans hs' (h1 y hy).1, (h1 y hy).2⟩
    · rw [if_neg h0] at h
      exact absurd h h0
theorem itemsL_ok {l : List Item} (h : itemsL l = 0) : (∀ x ∈ l, itE x = 0) ∧ (l.Pairwise fun x y => sless x.id y.id = true) ∧ DistI l := by
  obtain ⟨h1, h2⟩ := rise_ok (fun x : Item => x.id) itE l 0 ⟨#[]⟩ h
  exact ⟨fun x hx => (h1 x hx).2, h2, h2.imp fun {a b} q => sless_ne q⟩
/-! ### Check -/
theorem plc_itm (l : List Item) (id : ByteArray) : decide (plc l id < 0) = !(itm l id).isSome := by
  rcases itm_plc l id with ⟨h1, h2⟩ | ⟨k, y, h1, h2, h3, h4⟩
  · rw [h1, h2]; rfl
  · rw [h1, h3]; exact decide_eq_false (by omega)
theorem Check_L4 (fu n : Nat) (l : List Item) (hl : l.length ≤ 200000) (M : List (ByteArray × Item)) (hM : M.length ≤ 400000) (hfu : 1000000 ≤ fu) : intake_Check_L4 fu (n + 2) fu (smap itemM M) (l.map itemC) (l.length : Nat) (0 : Int) = some ([.int .i64 (errL (σ := Unit) (fun _ _ x => fnz [pkE (aget M) x, if decide (4 < (paF (aget M) x.id M.length 0 x).1) = true then 2 else 0]) (fun _ s _ => s) 0 () l).1], []) := by
  have h := err_loop l (fun k i (_ : Unit) => intake_Check_L4 fu (n + 2) k (smap itemM M) (l.map itemC) (l.length : Nat) i) (fun _ _ x => fnz [pkE (aget M) x, if decide (4 < (paF (aget M) x.id M.length 0 x).1) = true then 2 else 0]) (fun _ s _ => s) (fun _ => some ([.int .i64 0], []))
    (fun k s => by rw [intake_Check_L4_eq, cnd_decide, if_neg (by omega)])
    (fun k i s hi => by
      have hp := placed_ok fu n M hM l[i] hfu
      unfold itemC at hp
      rw [intake_Check_L4_eq, cnd_decide, if_pos (by omega), rdItem hi, hp, rI_some, cnd_err, i64s (by omega)]) l.length 0 fu () (by omega) (by omega)
  rw [List.drop_zero, errO_fin] at h
  exact h
theorem Check_L3 (fu n : Nat) (l : List Item) (hl : l.length ≤ 200000) (M : List (ByteArray × Item)) (hM : M.length ≤ 400000) (hfu : 1000000 ≤ fu) : intake_Check_L3 fu (n + 2) fu (l.map itemC) (smap itemM M) (l.map itemC) (l.length : Nat) (0 : Int) = errO (errL (σ := Unit) (fun _ _ x => if (paF (aget M) x.id M.length 0 x).2 = true then 14 else 0) (fun _ s _ => s) 0 () l).1 (intake_Check_L4 fu (n + 2) fu (smap itemM M) (l.map itemC) (l.length : Nat) (0 : Int)) := by
  have h := err_loop l (fun k i (_ : Unit) => intake_Check_L3 fu (n + 2) k (l.map itemC) (smap itemM M) (l.map itemC) (l.length : Nat) i) (fun _ _ x => if (paF (aget M) x.id M.length 0 x).2 = true then 14 else 0) (fun _ s _ => s) (fun _ => intake_Check_L4 fu (n + 2) fu (smap itemM M) (l.map itemC) (l.length : Nat) (0 : Int))
    (fun k s => by rw [intake_Check_L3_eq, cnd_decide, if_neg (by omega), List.length_map])
    (fun k i s hi => by
      have hp := Pabove_ok fu (n + 1) M hM l[i] hfu
      unfold itemC at hp
      rw [intake_Check_L3_eq, cnd_decide, if_pos (by omega), rdItem hi, hp]
      simp only [callE_some', unXN_nil, unC_cons, dI_int, dB_bool, unN_nil]
      rw [cnd_errc _ _ (show (14 : Int) ≠ 0 by decide), i64s (by omega)]) l.length 0 fu () (by omega) (by omega)
  rw [List.drop_zero] at h
  exact h
theorem Check_L2 (fu n : Nat) (l : List Item) (hl : l.length ≤ 200000) (M : List (ByteArray × Item)) (hM : M.length ≤ 400000) (hfu : 1000000 ≤ fu) : intake_Check_L2 fu (n + 2) fu (l.map itemC) (smap itemM M) (l.map itemC) (l.length : Nat) (0 : Int) = errO (errL (σ := Unit) (fun _ _ x => if (!decide (x.parent = ⟨#[]⟩) && !(aget M x.parent).isSome) = true then 8 else 0) (fun _ s _ => s) 0 () l).1 (intake_Check_L3 fu (n + 2) fu (l.map itemC) (smap itemM M) (l.map itemC) (l.length : Nat) (0 : Int)) := by
  have h := err_loop l (fun k i (_ : Unit) => intake_Check_L2 fu (n + 2) k (l.map itemC) (smap itemM M) (l.map itemC) (l.length : Nat) i) (fun _ _ x => if (!decide (x.parent = ⟨#[]⟩) && !(aget M x.parent).isSome) = true then 8 else 0) (fun _ s _ => s) (fun _ => intake_Check_L3 fu (n + 2) fu (l.map itemC) (smap itemM M) (l.map itemC) (l.length : Nat) (0 : Int))
    (fun k s => by rw [intake_Check_L2_eq, cnd_decide, if_neg (by omega), List.length_map])
    (fun k i s hi => by
      rw [intake_Check_L2_eq, cnd_decide, if_pos (by omega), rdItem hi, gK_smap, mgItem, i64s (by omega)]
      cases decide (l[i].parent = (⟨#[]⟩ : ByteArray)) <;> cases (aget M l[i].parent).isSome <;> rfl) l.length 0 fu () (by omega) (by omega)
  rw [List.drop_zero] at h
  exact h
theorem tree_same {l : List Item} (hd : DistI l) : fnz [(errL (σ := Unit) (fun _ _ x => if (paF (itm l) x.id l.length 0 x).2 = true then 14 else 0) (fun _ s _ => s) 0 () l).1, (errL (σ := Unit) (fun _ _ x => fnz [pkE (itm l) x, if decide (4 < (paF (itm l) x.id l.length 0 x).1) = true then 2 else 0]) (fun _ s _ => s) 0 () l).1] = treeE l := by
  have e3 : (errL (σ := Unit) (fun _ _ x => if (paF (itm l) x.id l.length 0 x).2 = true then 14 else 0) (fun _ s _ => s) 0 () l) = (errL (σ := Unit) (fun i _ _ => if retB l i = true then 14 else 0) (fun _ s _ => s) 0 () l) := by
    apply errL_congr
    intro j s x hx
    rw [Nat.zero_add, ret_eq hd hx]
  unfold treeE
  rw [e3]
  by_cases h : (errL (σ := Unit) (fun i _ _ => if retB l i = true then 14 else 0) (fun _ s _ => s) 0 () l).1 = 0
  · have hn : ∀ (i : Nat), i < l.length → retB l i = false := fun i hi => by
      have := errL_at (fun i _ _ => if retB l i = true then 14 else 0) l 0 h i l[i] (List.getElem?_eq_getElem hi)
      rw [Nat.zero_add] at this
      exact if_zero this (by decide)
    have e4 : (errL (σ := Unit) (fun _ _ x => fnz [pkE (itm l) x, if decide (4 < (paF (itm l) x.id l.length 0 x).1) = true then 2 else 0]) (fun _ s _ => s) 0 () l) = (errL (σ := Unit) (fun i _ x => fnz [parK l x, if decide ((4 : Int) < ((abv l i).1.length : Int)) = true then 2 else 0]) (fun _ s _ => s) 0 () l) := by
      apply errL_congr
      intro j s x hx
      rw [Nat.zero_add, parK_eq, abv_n hd hn hx]
    rw [e4]
  · simp only [fnz, if_neg h]
theorem Check_ok (fu n : Nat) (l : List Item) (hfu : 1000000 ≤ fu) : ev fu (n + 7) 15 [.list (l.map itemC)] [] = some ([.int .i64 (itemsE l)], []) := by
  rw [intake_Check_eq, List.length_map, cnd_errc _ _ (show (2 : Int) ≠ 0 by decide)]
  unfold itemsE
  rw [out_fnz]
  refine errO_congr fun h0 => ?_
  have hl : l.length ≤ 2000 := by
    by_cases h1 : (2000 : Int) < (l.length : Int)
    · rw [decide_eq_true h1] at h0; exact absurd h0 (by decide)
    · omega
  have h := err_loop l (fun k i (s : Unit) => intake_Check_L1 fu (n + 6) k (l.map itemC) (l.map itemC) (l.length : Nat) i) (fun i _ x => fnz [itE x, prevI l i x]) (fun _ s _ => s) (fun _ => intake_Check_L2 fu (n + 6) fu (l.map itemC) (smap itemM (byIdL l)) (l.map itemC) (l.length : Nat) (0 : Int))
    (fun k s => by rw [intake_Check_L1_eq, cnd_decide, if_neg (by omega), byId_ok fu (n + 5) l (by omega) hfu, rM_some, List.length_map])
    (fun k i s hi => by
      have hx := CheckItem_ok fu (n + 1) l[i] hfu
      unfold itemC at hx
      rw [intake_Check_L1_eq, cnd_decide, if_pos (by omega), rdItem hi]
      simp only [eqM_self', hx, When_ok, rI_some, First2_ok fu (n + 5) hfu, cnd_err, i64s (show i < 9223372036854775807 by omega)]
      unfold prevI
      by_cases h0 : 0 < i
      · have hm : mm2 true (i : Int) (1 : Int) = (i : Int) := by unfold mm2; simp; omega
        have hg : l[i - 1]? = some l[i - 1] := List.getElem?_eq_getElem (by omega)
        have hw : IntKind.i64.wrap ((i : Int) - 1) = ((i - 1 : Nat) : Int) := by rw [w64 (by omega) (by omega)]; omega
        have hr : ∀ K : List MV → Out, rd (l.map itemC) ((i - 1 : Nat) : Int) K = K (itemC l[i - 1]) := fun K => rdn hg K
        have hc : ∀ K : MV → Out, cel (itemC l[i - 1]) 0 K = K (.str l[i - 1].id) := fun _ => rfl
        rw [decide_eq_true (show (0 : Int) < (i : Int) by omega), cnd_true]
        simp only [hm, hw, hr, hc, itemC_len, gd_true, dS_str, eqM_self', When_ok, rI_some, First2_ok fu (n + 5) hfu, cnd_err, if_pos h0, hg]
      · rw [decide_eq_false (show ¬ (0 : Int) < (i : Int) by omega), cnd_false]
        simp only [if_neg h0]; rfl) l.length 0 fu () (by omega) (by omega)
  rw [List.drop_zero] at h
  refine h.trans ?_
  have hs := items_same l l.length 0 (by omega)
  rw [List.drop_zero] at hs
  rw [hs, out_fnz]
  show errO (itemsL l) _ = errO (itemsL l) _
  refine errO_congr fun hA => ?_
  obtain ⟨a1, a2, hd⟩ := itemsL_ok hA
  have eg := byId_get hd
  have eN := byId_len hd
  have e2 : (errL (σ := Unit) (fun _ _ x => if (!decide (x.parent = ⟨#[]⟩) && !(itm l x.parent).isSome) = true then 8 else 0) (fun _ s _ => s) 0 () l).1 = parL l := by
    unfold parL
    simp only [plc_itm]
  rw [Check_L2 fu (n + 4) l (by omega) (byIdL l) (by omega) hfu, Check_L3 fu (n + 4) l (by omega) (byIdL l) (by omega) hfu, Check_L4 fu (n + 4) l (by omega) (byIdL l) (by omega) hfu, eg, eN, e2, errO_two, errO_two, tree_same hd]
end Go.Pv
/- Chapter 1, plain: families, in the order of the ways from the top. -/
namespace Go.Pv
open Go

/-! ### Orders -/
theorem sorted_unique {β : Type} {R : β → β → Prop} (hirr : ∀ a, ¬ R a a) (has : ∀ a b, R a b → ¬ R b a) : ∀ (A B : List β), A.Pairwise R → B.Pairwise R → (∀ x, x ∈ A ↔ x ∈ B) → A = B
  | [], [], _, _, _ => rfl
  | [], b :: B, _, _, h => absurd ((h b).2 (List.mem_cons_self ..)) (by simp)
  | a :: A, [], _, _, h => absurd ((h a).1 (List.mem_cons_self ..)) (by simp)
  | a :: A, b :: B, hA, hB, h => by
    have hA := List.pairwise_cons.1 hA
    have hB := List.pairwise_cons.1 hB
    have e : a = b := by
      rcases List.mem_cons.1 ((h a).1 (List.mem_cons_self ..)) with e | h1
      · exact e
      · rcases List.mem_cons.1 ((h b).2 (List.mem_cons_self ..)) with e | h2
        · exact e.symm
        · exact absurd (hA.1 b h2) (has _ _ (hB.1 a h1))
    subst e
    rw [sorted_unique hirr has A B hA.2 hB.2 (fun x => ?_)]
    constructor
    · intro hx
      rcases List.mem_cons.1 ((h x).1 (List.mem_cons_of_mem _ hx)) with e | h1
      · subst e; exact absurd (hA.1 x hx) (hirr x)
      · exact h1
    · intro hx
      rcases List.mem_cons.1 ((h x).2 (List.mem_cons_of_mem _ hx)) with e | h1
      · subst e; exact absurd (hB.1 x hx) (hirr x)
      · exact h1
/-- The order of rows of strings. -/
def wkey (a : List ByteArray) : List (List UInt8) := a.map (·.data.toList)
def wlt (a b : List ByteArray) : Prop := wkey a < wkey b
theorem wkey_inj : ∀ {a b : List ByteArray}, wkey a = wkey b → a = b
  | [], [], _ => rfl
  | [], _ :: _, h => by simp [wkey] at h
  | _ :: _, [], h => by simp [wkey] at h
  | x :: a, y :: b, h => by
    simp only [wkey, List.map_cons, List.cons.injEq] at h
    rw [ba_ext h.1, wkey_inj (a := a) (b := b) h.2]
theorem wlt_irr (a : List ByteArray) : ¬ wlt a a := List.lt_irrefl _
theorem wlt_trans {a b c : List ByteArray} (h : wlt a b) (k : wlt b c) : wlt a c := List.lt_trans h k
theorem wlt_asymm (a b : List ByteArray) (h : wlt a b) : ¬ wlt b a := fun k => wlt_irr _ (wlt_trans h k)
theorem wlt_tri {a b : List ByteArray} (h1 : ¬ wlt a b) (h2 : a ≠ b) : wlt b a := by
  rcases Classical.em (wlt b a) with h | h
  · exact h
  · exact absurd (wkey_inj (List.le_antisymm (show wkey a ≤ wkey b from fun q => h q) (show wkey b ≤ wkey a from fun q => h1 q))) h2
theorem wlt_app : ∀ (p a b : List ByteArray), wlt a b → wlt (p ++ a) (p ++ b)
  | [], a, b, h => h
  | x :: p, a, b, h => by
    show wkey (x :: (p ++ a)) < wkey (x :: (p ++ b))
    simp only [wkey, List.map_cons]
    exact List.cons_lt_cons_iff.2 (.inr ⟨rfl, wlt_app p a b h⟩)
theorem wlt_more (p : List ByteArray) (c : ByteArray) (s : List ByteArray) : wlt p (p ++ c :: s) := by
  have := wlt_app p [] (c :: s) (by show wkey [] < wkey (c :: s); simp [wkey])
  simpa using this
theorem wlt_fork (p s t : List ByteArray) {a b : ByteArray} (h : sless a b = true) : wlt (p ++ a :: s) (p ++ b :: t) := by
  apply wlt_app
  show wkey (a :: s) < wkey (b :: t)
  simp only [wkey, List.map_cons]
  rw [sless_eq, decide_eq_true_iff] at h
  exact List.cons_lt_cons_iff.2 (.inl h)

/-! ### Trees -/
def kidI (l : List Item) (id : ByteArray) : List Item := l.filter fun x => decide (x.parent = id)
/-- An item and all below it. -/
def belI (l : List Item) : Nat → Item → List Item
  | 0, x => [x]
  | k + 1, x => x :: (kidI l x.id).flatMap (belI l k)
/-- The way from the top. -/
def wayL (l : List Item) (x : Item) : List ByteArray := ((anc (itm l) (l.length + 1) x).map (·.id)).reverse ++ [x.id]
structure Tree (l : List Item) : Prop where
  asc : l.Pairwise fun x y => sless x.id y.id = true
  ne : ∀ x ∈ l, x.id ≠ ⟨#[]⟩
  par : ∀ x ∈ l, x.parent ≠ ⟨#[]⟩ → ∃ p, itm l x.parent = some p
  fin : ∀ x ∈ l, itU (itm l) l.length x = none
  dep : ∀ x ∈ l, itU (itm l) 5 x = none
  nor : ∀ (i : Nat), i < l.length → retB l i = false
theorem Tree.dist {l : List Item} (h : Tree l) : DistI l := h.asc.imp fun q => sless_ne q
theorem Tree.fam {l : List Item} (h : Tree l) : Fam (itm l) l := fam_itm h.dist
theorem itU_mono {g : ByteArray → Option Item} {a b : Nat} {x : Item} (h : itU g a x = none) (hab : a ≤ b) : itU g b x = none := by
  rw [show b = a + (b - a) by omega, itU_add, h]; rfl
theorem errL_ix {α : Type} (f : Nat → Unit → α → Int) (xs : List α) (h : (errL f (fun _ s _ => s) 0 () xs).1 = 0) {k : Nat} {x : α} (hx : xs[k]? = some x) : f k () x = 0 := by
  have := errL_at f xs 0 h k x hx
  rwa [Nat.zero_add] at this
/-- Items that are right together are trees. -/
theorem tree_of {l : List Item} (h : itemsE l = 0) : Tree l := by
  have h1 := fnz0 _ h (itemsL l) (by simp)
  have h2 := fnz0 _ h (parL l) (by simp)
  have h3 := fnz0 _ h (treeE l) (by simp)
  obtain ⟨a1, a2, hd⟩ := itemsL_ok h1
  have hF := fam_itm hd
  unfold treeE at h3
  have r1 := fnz0 _ h3 (errL (σ := Unit) (fun i _ _ => if retB l i = true then 14 else 0) (fun _ s _ => s) 0 () l).1 (by simp)
  have r2 := fnz0 _ h3 (errL (σ := Unit) (fun i _ x => fnz [parK l x, if decide ((4 : Int) < ((abv l i).1.length : Int)) = true then 2 else 0]) (fun _ s _ => s) 0 () l).1 (by simp)
  have hno : ∀ y ∈ l, ∀ j, j < l.length → itU (itm l) (j + 1) y ≠ some y := by
    intro y hy j hj e
    obtain ⟨k, hk⟩ := List.mem_iff_getElem?.1 hy
    have := if_zero (errL_ix _ l r1 hk) (by decide)
    rw [ret_eq hd hk, paF_loop] at this
    have h2 : ((anc (itm l) l.length y).any fun p => decide (p.id = y.id)) = true := List.any_eq_true.2 ⟨y, anc_mem.2 ⟨j, hj, e⟩, decide_eq_true rfl⟩
    rw [this] at h2; cases h2
  have hfin : ∀ x ∈ l, itU (itm l) l.length x = none := fun x hx => no_ret hF hno hx
  refine ⟨a2, fun x hx => keyS_ne (itE_key (a1 x hx)), fun x hx hp => ?_, hfin, fun x hx => ?_, fun i hi => if_zero (errL_ix _ l r1 (List.getElem?_eq_getElem hi)) (by decide)⟩
  · obtain ⟨k, hk⟩ := List.mem_iff_getElem?.1 hx
    have := errL_ix _ l h2 hk
    have := if_zero this (by decide)
    rw [decide_eq_false hp, plc_itm] at this
    cases e : itm l x.parent with
    | some p => exact ⟨p, rfl⟩
    | none => rw [e] at this; cases this
  · obtain ⟨k, hk⟩ := List.mem_iff_getElem?.1 hx
    have := errL_ix _ l r2 hk
    have := fnz0 _ this (if decide ((4 : Int) < ((abv l k).1.length : Int)) = true then 2 else 0) (by simp)
    have := of_decide_eq_false (if_zero this (by decide))
    rw [abv_anc l k x hk, List.length_map] at this
    rcases Nat.lt_or_ge l.length 5 with h5 | h5
    · exact itU_mono (hfin x hx) (by omega)
    · cases e : itU (itm l) 5 x with
      | none => rfl
      | some z =>
        exfalso
        have h6 : (anc (itm l) (l.length + 1) x)[4]? = some z := by rw [anc_get, if_pos (by omega), e]
        have := (List.getElem?_eq_some_iff.1 h6).1
        omega
section
variable {l : List Item} (hT : Tree l)
include hT
theorem Tree.parO_some {x p : Item} (h : parO (itm l) x = some p) : x.parent ≠ ⟨#[]⟩ ∧ itm l x.parent = some p ∧ p ∈ l ∧ p.id = x.parent := by
  unfold parO at h
  split at h
  · cases h
  · rename_i hp
    obtain ⟨h1, h2⟩ := hT.fam.mem h
    exact ⟨hp, h, h1, h2⟩
theorem Tree.parO_kid {x p : Item} (hx : x ∈ l) (hp : p ∈ l) (h : x.parent = p.id) : parO (itm l) x = some p := by
  unfold parO
  rw [if_neg (by rw [h]; exact hT.ne p hp), h]
  exact hT.fam.get p hp
theorem Tree.parO_none {x : Item} (hx : x ∈ l) (h : parO (itm l) x = none) : x.parent = ⟨#[]⟩ := by
  apply Classical.byContradiction
  intro hp
  obtain ⟨p, e⟩ := hT.par x hx hp
  unfold parO at h
  rw [if_neg hp, e] at h; cases h
theorem Tree.way_kid {x p : Item} (hx : x ∈ l) (hp : p ∈ l) (h : x.parent = p.id) : wayL l x = wayL l p ++ [x.id] := by
  unfold wayL
  rw [anc, hT.parO_kid hx hp h, anc_stop l.length p (itU_mono (hT.fin p hp) (by omega))]
  simp
omit hT in
theorem way_top {x : Item} (h : x.parent = ⟨#[]⟩) : wayL l x = [x.id] := by
  unfold wayL
  rw [anc]
  unfold parO
  rw [if_pos h]; rfl
theorem Tree.way_inj {x y : Item} (hx : x ∈ l) (hy : y ∈ l) (h : wayL l x = wayL l y) : x = y := by
  have h1 := congrArg List.getLast? h
  unfold wayL at h1
  simp at h1
  have e1 := hT.fam.get x hx
  rw [h1, hT.fam.get y hy] at e1
  cases e1; rfl
omit hT in
theorem kidI_mem {id : ByteArray} {x : Item} : x ∈ kidI l id ↔ x ∈ l ∧ x.parent = id := by
  unfold kidI; rw [List.mem_filter]; simp
theorem Tree.kid_asc (id : ByteArray) : (kidI l id).Pairwise fun x y => sless x.id y.id = true := hT.asc.sublist List.filter_sublist
/-- What is below an item: in order, and its ways go on from the item's. -/
theorem Tree.bel : ∀ (k : Nat) (x : Item), x ∈ l → (belI l k x).Pairwise (fun a b => wlt (wayL l a) (wayL l b)) ∧ ∀ y ∈ belI l k x, y ∈ l ∧ ∃ s, wayL l y = wayL l x ++ s
  | 0, x, hx => ⟨List.pairwise_singleton _ _, fun y hy => by
      rcases List.mem_singleton.1 hy with rfl
      exact ⟨hx, [], by simp⟩⟩
  | k + 1, x, hx => by
    have hk : ∀ c ∈ kidI l x.id, c ∈ l ∧ wayL l c = wayL l x ++ [c.id] := fun c hc => by
      obtain ⟨h1, h2⟩ := kidI_mem.1 hc
      exact ⟨h1, hT.way_kid h1 hx h2⟩
    have ih : ∀ c ∈ kidI l x.id, _ := fun c hc => Tree.bel k c (hk c hc).1
    have hin : ∀ c ∈ kidI l x.id, ∀ y ∈ belI l k c, y ∈ l ∧ ∃ s, wayL l y = wayL l x ++ c.id :: s := fun c hc y hy => by
      obtain ⟨h1, s, h2⟩ := (ih c hc).2 y hy
      exact ⟨h1, s, by rw [h2, (hk c hc).2]; simp⟩
    rw [belI]
    refine ⟨List.pairwise_cons.2 ⟨fun y hy => ?_, List.pairwise_flatMap.2 ⟨fun c hc => (ih c hc).1, ?_⟩⟩, fun y hy => ?_⟩
    · obtain ⟨c, hc, hy⟩ := List.mem_flatMap.1 hy
      obtain ⟨_, s, h2⟩ := hin c hc y hy
      rw [h2]; exact wlt_more _ _ _
    · refine List.Pairwise.imp_of_mem (fun {c d} hc hd hcd => ?_) (hT.kid_asc x.id)
      intro y hy z hz
      obtain ⟨_, s, h1⟩ := hin c hc y hy
      obtain ⟨_, t, h2⟩ := hin d hd z hz
      rw [h1, h2]; exact wlt_fork _ _ _ hcd
    · rcases List.mem_cons.1 hy with rfl | hy
      · exact ⟨hx, [], by simp⟩
      · obtain ⟨c, hc, hy⟩ := List.mem_flatMap.1 hy
        obtain ⟨h1, s, h2⟩ := hin c hc y hy
        exact ⟨h1, _, h2⟩
omit hT in
theorem bel_kid : ∀ (k : Nat) (t p y : Item), p ∈ belI l k t → y ∈ kidI l p.id → y ∈ belI l (k + 1) t
  | 0, t, p, y, hp, hy => by
    rcases List.mem_singleton.1 hp with rfl
    rw [belI]
    exact List.mem_cons_of_mem _ (List.mem_flatMap.2 ⟨y, hy, by simp [belI]⟩)
  | k + 1, t, p, y, hp, hy => by
    rw [belI] at hp ⊢
    rcases List.mem_cons.1 hp with rfl | hp
    · exact List.mem_cons_of_mem _ (List.mem_flatMap.2 ⟨y, hy, by cases k <;> simp [belI]⟩)
    · obtain ⟨c, hc, hp⟩ := List.mem_flatMap.1 hp
      exact List.mem_cons_of_mem _ (List.mem_flatMap.2 ⟨c, hc, bel_kid k c p y hp hy⟩)
omit hT in
theorem bel_self (k : Nat) (t : Item) : t ∈ belI l k t := by cases k <;> simp [belI]
/-- Every item is below a top. -/
theorem Tree.bel_all : ∀ (d : Nat) (y : Item), y ∈ l → itU (itm l) (d + 1) y = none → ∃ t ∈ kidI l ⟨#[]⟩, y ∈ belI l d t
  | d, y, hy, h => by
    cases e : parO (itm l) y with
    | none => exact ⟨y, kidI_mem.2 ⟨hy, hT.parO_none hy e⟩, bel_self d y⟩
    | some p =>
      obtain ⟨h1, h2, h3, h4⟩ := hT.parO_some e
      rw [itU, e] at h
      cases d with
      | zero => cases h
      | succ d =>
        obtain ⟨t, ht, hp⟩ := Tree.bel_all d p h3 h
        exact ⟨t, ht, bel_kid d t p y hp (kidI_mem.2 ⟨hy, h4.symm⟩)⟩
/-- All items, family by family. -/
theorem Tree.all_order : ((kidI l ⟨#[]⟩).flatMap (belI l 4)).Pairwise (fun a b => wlt (wayL l a) (wayL l b)) ∧ ∀ y, y ∈ (kidI l ⟨#[]⟩).flatMap (belI l 4) ↔ y ∈ l := by
  have hin : ∀ t ∈ kidI l ⟨#[]⟩, ∀ y ∈ belI l 4 t, y ∈ l ∧ ∃ s, wayL l y = [] ++ t.id :: s := fun t ht y hy => by
    obtain ⟨h1, h2⟩ := kidI_mem.1 ht
    obtain ⟨h3, s, h4⟩ := (hT.bel 4 t h1).2 y hy
    exact ⟨h3, s, by rw [h4, way_top h2]; rfl⟩
  refine ⟨List.pairwise_flatMap.2 ⟨fun t ht => (hT.bel 4 t (kidI_mem.1 ht).1).1, ?_⟩, fun y => ⟨fun hy => ?_, fun hy => ?_⟩⟩
  · refine List.Pairwise.imp_of_mem (fun {c d} hc hd hcd => ?_) (hT.kid_asc _)
    intro y hy z hz
    obtain ⟨_, s, h1⟩ := hin c hc y hy
    obtain ⟨_, t, h2⟩ := hin d hd z hz
    rw [h1, h2]; exact wlt_fork _ _ _ hcd
  · obtain ⟨t, ht, hy⟩ := List.mem_flatMap.1 hy
    exact (hin t ht y hy).1
  · obtain ⟨t, ht, h⟩ := hT.bel_all 4 y hy (hT.dep y hy)
    exact List.mem_flatMap.2 ⟨t, ht, h⟩
/-- Below an item, only itself can be a top. -/
theorem Tree.bel_tail {k : Nat} {t : Item} (ht : t ∈ l) : ∃ r, belI l k t = t :: r ∧ ∀ y ∈ r, y.parent ≠ ⟨#[]⟩ := by
  have h := hT.bel k t ht
  cases k with
  | zero => exact ⟨[], rfl, by simp⟩
  | succ k =>
    refine ⟨_, rfl, fun y hy => ?_⟩
    obtain ⟨c, hc, hy⟩ := List.mem_flatMap.1 hy
    obtain ⟨h1, h2⟩ := kidI_mem.1 hc
    obtain ⟨h3, s, h4⟩ := (hT.bel k c h1).2 y hy
    intro hp
    rw [way_top hp, hT.way_kid h1 ht h2] at h4
    have := congrArg List.length h4
    unfold wayL at this
    simp at this
    omega
/-! ### The top of an item -/
omit hT in
def topF (g : ByteArray → Option Item) : Nat → Item → Item
  | 0, x => x
  | k + 1, x => match parO g x with
    | none => x
    | some p => topF g k p
theorem Tree.top_of : ∀ (d k : Nat) (t y : Item), t.parent = ⟨#[]⟩ → t ∈ l → y ∈ belI l k t → itU (itm l) (d + 1) y = none → topF (itm l) (d + 1) y = t
  | d, 0, t, y, ht, htl, hy, h => by
    rcases List.mem_singleton.1 hy with rfl
    rw [topF]
    unfold parO
    rw [if_pos ht]
  | d, k + 1, t, y, ht, htl, hy, h => by
    rcases List.mem_cons.1 hy with rfl | hy'
    · rw [topF]
      unfold parO
      rw [if_pos ht]
    · obtain ⟨r, e1, e2⟩ := hT.bel_tail (k := k + 1) htl
      have hyl := ((hT.bel (k + 1) t htl).2 y hy).1
      -- the parent is below t, too
      have key : ∀ (k : Nat) (t : Item), t ∈ l → y ∈ belI l k t → y = t ∨ ∃ p ∈ belI l k t, parO (itm l) y = some p := by
        intro k
        induction k with
        | zero => intro t ht hy; exact .inl (List.mem_singleton.1 hy)
        | succ k ih =>
          intro t ht hy
          rcases List.mem_cons.1 hy with rfl | hy
          · exact .inl rfl
          · obtain ⟨c, hc, hy⟩ := List.mem_flatMap.1 hy
            obtain ⟨h1, h2⟩ := kidI_mem.1 hc
            rcases ih c h1 hy with rfl | ⟨p, hp, hpo⟩
            · exact .inr ⟨t, bel_self _ t, hT.parO_kid h1 ht h2⟩
            · exact .inr ⟨p, List.mem_cons_of_mem _ (List.mem_flatMap.2 ⟨c, hc, hp⟩), hpo⟩
      rcases key (k + 1) t htl hy with rfl | ⟨p, hp, hpo⟩
      · rw [topF]; unfold parO; rw [if_pos ht]
      · rw [topF, hpo]
        rw [itU, hpo] at h
        simp only
        cases d with
        | zero => cases h
        | succ d => exact Tree.top_of d (k + 1) t p ht htl hp h
  termination_by d => d
end
end Go.Pv
/- Chapter 1: the program's trees of items. -/
namespace Go.Pv
open Go Go.Proofs

section
variable {α : Type}
def holdL (l : List ByteArray) : MV := .hold false 1 (.list (strs l))
def listM (l : List ByteArray) : MV := .list (strs l)
theorem hdK_smap (M : List (ByteArray × List ByteArray)) (k : ByteArray) (K : List (List MV) → Option α) : hdK 1 (smap holdL M) (.str k) K = K (strs ((aget M k).getD [])) := by
  unfold hdK
  rw [mget_smap]
  cases aget M k <;> rfl
theorem mgL_smap (M : List (ByteArray × List ByteArray)) (k : ByteArray) (K : List (List MV) → Option α) : mgE (smap listM M) (.str k) .nil (fun _ m => dL m K) = K (strs ((aget M k).getD [])) := by
  rw [mgE_smap]
  cases aget M k <;> rfl
theorem shE_holds : ∀ M : List (ByteArray × List ByteArray), shE (smap holdL M) = smap listM M
  | [] => rfl
  | x :: r => by
    show shE ((.str x.1, holdL x.2) :: smap holdL r) = _
    simp only [shE, shE_holds r]; rfl
theorem strs_app (a b : List ByteArray) : strs (a ++ b) = strs a ++ strs b := by simp [strs]
theorem strs_one (a : ByteArray) : strs [a] = [[.str a]] := rfl
theorem rdStrs {l : List ByteArray} {i : Nat} (h : i < l.length) (K : ByteArray → Option α) : rd (strs l) (i : Int) (fun e => gd (List.length e = 1) (cel e 0 fun m => dS m K)) = K l[i] := by
  unfold strs
  rw [rdm h, gd_pos (sS_len _)]; rfl
theorem wid_strs (l : List ByteArray) : wid 1 (strs l) = true := wid_map (f := sS) (sz := 1) (fun _ => rfl) l
end
/-! ### newTree -/
def kmF : List Item → List (ByteArray × List ByteArray) → List (ByteArray × List ByteArray)
  | [], M => M
  | x :: r, M => if x.parent = ⟨#[]⟩ then kmF r M else kmF r (aset M x.parent ((aget M x.parent).getD [] ++ [x.id]))
def topsF : List Item → List ByteArray → List ByteArray
  | [], T => T
  | x :: r, T => if x.parent = ⟨#[]⟩ then topsF r (T ++ [x.id]) else topsF r T
def idsI (l : List Item) : List ByteArray := l.map (·.id)
theorem kmF_get : ∀ (l : List Item) (M : List (ByteArray × List ByteArray)) (id : ByteArray), id ≠ ⟨#[]⟩ → (aget (kmF l M) id).getD [] = (aget M id).getD [] ++ idsI (kidI l id)
  | [], M, id, h => by simp [kmF, kidI, idsI]
  | x :: r, M, id, h => by
    rw [kmF]
    by_cases hp : x.parent = ⟨#[]⟩
    · rw [if_pos hp, kmF_get r M id h]
      have : ¬ x.parent = id := fun e => h (by rw [← e, hp])
      simp [kidI, this]
    · rw [if_neg hp, kmF_get r _ id h, aget_aset]
      by_cases hx : x.parent = id
      · subst hx
        simp [kidI, idsI]
      · rw [if_neg (fun e => hx e.symm)]
        simp [kidI, hx]
theorem topsF_eq : ∀ (l : List Item) (T : List ByteArray), topsF l T = T ++ idsI (kidI l ⟨#[]⟩)
  | [], T => by simp [topsF, kidI, idsI]
  | x :: r, T => by
    rw [topsF]
    by_cases hp : x.parent = ⟨#[]⟩
    · rw [if_pos hp, topsF_eq r]; simp [kidI, idsI, hp]
    · rw [if_neg hp, topsF_eq r]; simp [kidI, hp]
def treC (l : List Item) : List MV := [.map (smap itemM (byIdL l)), .map (smap listM (kmF l [])), .list (strs (idsI (kidI l ⟨#[]⟩)))]
theorem newTree_L1 (fu n : Nat) (l : List Item) (hl : l.length ≤ 200000) (Z : List (MKey × MV)) (Z' : List (MKey × MV)) (Z'' : List (List MV)) (A : List (MKey × MV)) : ∀ (m i k : Nat) (M : List (ByteArray × List ByteArray)) (T : List ByteArray), i + m = l.length → m < k → (∀ q v, aget M q = some v → v.length ≤ i) → T.length ≤ i →
    intake_newTree_L1 fu n k (l.map itemC) (l.length : Nat) (i : Nat) Z Z' Z'' A (smap holdL M) (strs T) = some ([.agg [.map A, .map (smap listM (kmF (l.drop i) M)), .list (strs (topsF (l.drop i) T))]], [])
  | m, i, 0, M, T, hi, hk, hM, hT => by omega
  | 0, i, k + 1, M, T, hi, hk, hM, hT => by
    rw [intake_newTree_L1_eq, cnd_decide, if_neg (by omega), List.drop_of_length_le (by omega), shE_holds]; rfl
  | m + 1, i, k + 1, M, T, hi, hk, hM, hT => by
    have hlt : i < l.length := by omega
    rw [intake_newTree_L1_eq, cnd_decide, if_pos (by omega), rdItem hlt, cnd_decide, List.drop_eq_getElem_cons hlt, kmF, topsF, i64s (by omega)]
    by_cases hp : l[i].parent = ⟨#[]⟩
    · rw [if_pos hp, if_pos hp, if_pos hp, gL_pos (by rw [strs_len]; simp; omega), ← strs_one, ← strs_app]
      exact newTree_L1 fu n l hl Z Z' Z'' A m (i + 1) k M (T ++ [l[i].id]) (by omega) (by omega) (fun q v e => by have := hM q v e; omega) (by simp; omega)
    · rw [if_neg hp, if_neg hp, if_neg hp, gK_smap, gK_smap, hdK_smap, hdK_smap]
      have hv : ((aget M l[i].parent).getD []).length ≤ i := by
        cases e : aget M l[i].parent with
        | none => simp
        | some v => exact hM _ _ e
      have e1 := mset_smap holdL M l[i].parent ((aget M l[i].parent).getD [] ++ [l[i].id])
      unfold holdL at e1
      rw [strs_app, strs_one] at e1
      have ih := newTree_L1 fu n l hl Z Z' Z'' A m (i + 1) k (aset M l[i].parent ((aget M l[i].parent).getD [] ++ [l[i].id])) T (by omega) (by omega) (fun q v e => by
        rw [aget_aset] at e
        split at e
        · injection e with e; subst e; simp; omega
        · have := hM q v e; omega) (by omega)
      rw [gL_pos (by rw [strs_len]; simp; omega), gd_pos rfl, gK_smap]
      have e1' : mset (smap holdL M) (.str l[i].parent) (.hold false 1 (.list (strs ((aget M l[i].parent).getD []) ++ [[.str l[i].id]]))) = smap holdL (aset M l[i].parent ((aget M l[i].parent).getD [] ++ [l[i].id])) := e1
      rw [e1', ih]
      simp only [eqM_self', eqO_self]
theorem newTree_ok (fu n : Nat) (l : List Item) (hl : l.length ≤ 200000) (hfu : 1000000 ≤ fu) : ev fu (n + 2) 79 [.list (l.map itemC)] [] = some ([.agg (treC l)], []) := by
  have h := newTree_L1 fu (n + 1) l hl [] [] [] (smap itemM (byIdL l)) l.length 0 fu [] [] (by omega) (by omega) (fun q v e => by cases e) (Nat.le_refl _)
  rw [intake_newTree_eq, byId_ok fu n l (by omega) hfu, rM_some, List.length_map]
  refine h.trans ?_
  rw [List.drop_zero, topsF_eq]; rfl
/-! ### below, top -/
theorem below_L1 (fu n : Nat) (tr : List (MKey × MV)) (tk : List (MKey × MV)) (tt : List (List MV)) (f : ByteArray → List ByteArray) (ids : List ByteArray) (hids : ids.length ≤ 100000) (hf : ∀ id ∈ ids, (f id).length ≤ 100000 ∧ ev fu n 80 [.agg [.map tr, .map tk, .list tt], .str id] [] = some ([.ref 0], [some (.row false 1 (strs (f id)) [])])) : ∀ (m i k : Nat) (v : List ByteArray), i + m = ids.length → m < k → v.length + (((ids.drop i).map f).flatten).length ≤ 1000000 →
    intake_tree_below_L1 fu n k tr tk tt (strs v) (strs ids) (ids.length : Nat) (i : Nat) = some ([.ref 0], [some (.row false 1 (strs (v ++ (ids.drop i).flatMap f)) [])])
  | m, i, 0, v, hi, hk, hv => by omega
  | 0, i, k + 1, v, hi, hk, hv => by
    rw [intake_tree_below_L1_eq, cnd_decide, if_neg (by omega), List.drop_of_length_le (by omega)]; simp
  | m + 1, i, k + 1, v, hi, hk, hv => by
    have hlt : i < ids.length := by omega
    obtain ⟨h1, h2⟩ := hf ids[i] (List.getElem_mem hlt)
    rw [List.drop_eq_getElem_cons hlt] at hv ⊢
    simp only [List.map_cons, List.flatten_cons, List.length_append] at hv
    rw [intake_tree_below_L1_eq, cnd_decide, if_pos (by omega), rdStrs hlt, h2, rO_some, wid_strs, sB_true, gL_pos (by rw [strs_len, strs_len]; omega), ← strs_app, i64s (by omega), below_L1 fu n tr tk tt f ids hids hf m (i + 1) k (v ++ f ids[i]) (by omega) (by omega) (by simp only [List.length_append]; omega), List.flatMap_cons, List.append_assoc]
theorem flatMap_congr' {β γ : Type} {f g : β → List γ} : ∀ {l : List β}, (∀ x ∈ l, f x = g x) → l.flatMap f = l.flatMap g
  | [], _ => rfl
  | x :: r, h => by
    rw [List.flatMap_cons, List.flatMap_cons, h x (List.mem_cons_self ..), flatMap_congr' (fun y hy => h y (List.mem_cons_of_mem _ hy))]
theorem idsI_len (l : List Item) : (idsI l).length = l.length := by simp [idsI]
/-- What is below an Id. -/
def belS (l : List Item) (k : Nat) (id : ByteArray) : List ByteArray := match itm l id with
  | some c => idsI (belI l k c)
  | none => []
theorem Tree.bel_len {l : List Item} (hT : Tree l) (k : Nat) {x : Item} (hx : x ∈ l) : (belI l k x).length ≤ l.length := by
  obtain ⟨h1, h2⟩ := hT.bel k x hx
  exact nodup_len _ _ (h1.imp fun {a b} h e => by subst e; exact wlt_irr _ h) (fun y hy => (h2 y hy).1)
theorem Tree.belS_flat {l : List Item} (hT : Tree l) (k : Nat) (id : ByteArray) : (idsI (kidI l id)).flatMap (belS l k) = idsI ((kidI l id).flatMap (belI l k)) := by
  unfold idsI
  rw [List.flatMap_map, List.map_flatMap]
  apply flatMap_congr'
  intro c hc
  unfold belS
  rw [hT.fam.get c (kidI_mem.1 hc).1]; rfl
theorem below_ok (fu n : Nat) (l : List Item) (hT : Tree l) (hl : l.length ≤ 2000) (hfu : 1000000 ≤ fu) : ∀ (k : Nat) (x : Item), x ∈ l → k ≤ 4 → itU (itm l) (4 - k) x ≠ none →
    ev fu (n + k + 1) 80 [.agg (treC l), .str x.id] [] = some ([.ref 0], [some (.row false 1 (strs (idsI (belI l k x))) [])])
  | k, x, hx, hk, hd => by
    have hne := hT.ne x hx
    have hkid := kmF_get l [] x.id hne
    simp only [aget, Option.getD_none, List.nil_append] at hkid
    unfold treC
    rw [intake_tree_below_eq, gK_smap, mgL_smap, hkid]
    have hkl : (kidI l x.id).length ≤ l.length := List.length_filter_le ..
    rw [strs_len]
    cases k with
    | zero =>
      have h0 : kidI l x.id = [] := by
        cases e : kidI l x.id with
        | nil => rfl
        | cons c r =>
          exfalso
          have hc : c ∈ kidI l x.id := by rw [e]; exact List.mem_cons_self ..
          obtain ⟨h1, h2⟩ := kidI_mem.1 hc
          have := hT.dep c h1
          rw [itU, hT.parO_kid h1 hx h2] at this
          exact hd this
      rw [h0]
      have := below_L1 fu (n + 0) (smap itemM (byIdL l)) (smap listM (kmF l [])) (strs (idsI (kidI l ⟨#[]⟩))) (fun _ => []) [] (by simp) (by simp) 0 0 fu [x.id] (by simp) (by omega) (by simp)
      exact this
    | succ k =>
      have hb : ∀ id ∈ idsI (kidI l x.id), (belS l k id).length ≤ 100000 ∧ ev fu (n + k + 1) 80 [.agg [.map (smap itemM (byIdL l)), .map (smap listM (kmF l [])), .list (strs (idsI (kidI l ⟨#[]⟩)))], .str id] [] = some ([.ref 0], [some (.row false 1 (strs (belS l k id)) [])]) := by
        intro id hid
        obtain ⟨c, hc, rfl⟩ := List.mem_map.1 hid
        obtain ⟨h1, h2⟩ := kidI_mem.1 hc
        have hc4 : itU (itm l) (4 - k) c ≠ none := by
          rw [show 4 - k = (4 - (k + 1)) + 1 by omega, itU, hT.parO_kid h1 hx h2]
          exact hd
        have e : belS l k c.id = idsI (belI l k c) := by unfold belS; rw [hT.fam.get c h1]
        have := hT.bel_len k h1
        rw [e]
        exact ⟨by rw [idsI_len]; omega, below_ok fu n l hT hl hfu k c h1 (by omega) hc4⟩
      have hlen := hT.bel_len (k + 1) hx
      rw [belI] at hlen
      have e2 := hT.belS_flat k x.id
      have e3 : (((idsI (kidI l x.id)).drop 0).map (belS l k)).flatten = idsI ((kidI l x.id).flatMap (belI l k)) := by rw [List.drop_zero, ← List.flatMap_def, e2]
      have h := below_L1 fu (n + k + 1) (smap itemM (byIdL l)) (smap listM (kmF l [])) (strs (idsI (kidI l ⟨#[]⟩))) (belS l k) (idsI (kidI l x.id)) (by rw [idsI_len]; omega) hb (idsI (kidI l x.id)).length 0 fu [x.id] (by omega) (by rw [idsI_len]; omega) (by rw [e3, idsI_len]; simp at hlen ⊢; omega)
      refine h.trans ?_
      rw [List.drop_zero, e2, belI]; rfl
theorem top_L1 (fu n : Nat) (l : List Item) (hT : Tree l) (A : List (MKey × MV)) (C : List (List MV)) : ∀ (d k : Nat) (x : Item), x ∈ l → itU (itm l) d x = none → d < k →
    intake_tree_top_L1 fu n k x.id (smap itemM (byIdL l)) A C = some ([.str (topF (itm l) d x).id], [])
  | 0, k, x, hx, h, hk => by cases h
  | d + 1, 0, x, hx, h, hk => by omega
  | d + 1, k + 1, x, hx, h, hk => by
    have e : aget (byIdL l) x.id = some x := by rw [byId_get hT.dist]; exact hT.fam.get x hx
    rw [intake_tree_top_L1_eq, gK_smap, mgItem, e, gK_smap, mgItem, e, topF]
    simp only [Option.getD_some]
    cases hp : parO (itm l) x with
    | none =>
      rw [decide_eq_true (hT.parO_none hx hp)]; rfl
    | some p =>
      obtain ⟨h1, h2, h3, h4⟩ := hT.parO_some hp
      rw [decide_eq_false h1, Bool.not_false, cnd_true, ← h4]
      rw [itU, hp] at h
      exact top_L1 fu n l hT A C d k p h3 h (by omega)
theorem top_ok (fu n : Nat) (l : List Item) (hT : Tree l) (hfu : 1000000 ≤ fu) (x : Item) (hx : x ∈ l) : ev fu (n + 1) 86 [.agg (treC l), .str x.id] [] = some ([.str (topF (itm l) 5 x).id], []) := by
  unfold treC
  rw [intake_tree_top_eq]
  exact top_L1 fu n l hT _ _ 5 fu x hx (hT.dep x hx) (by omega)
/-- The top of an item, and what is below it. -/
theorem Tree.top_is {l : List Item} (hT : Tree l) {x : Item} (hx : x ∈ l) : topF (itm l) 5 x ∈ kidI l ⟨#[]⟩ ∧ x ∈ belI l 4 (topF (itm l) 5 x) := by
  obtain ⟨t, ht, h⟩ := hT.bel_all 4 x hx (hT.dep x hx)
  obtain ⟨h1, h2⟩ := kidI_mem.1 ht
  rw [hT.top_of 4 4 t x h2 h1 h (hT.dep x hx)]
  exact ⟨ht, h⟩
theorem Tree.below_top {l : List Item} (hT : Tree l) {x t : Item} (ht : t ∈ kidI l ⟨#[]⟩) : x ∈ belI l 4 t ↔ x ∈ l ∧ topF (itm l) 5 x = t := by
  obtain ⟨h1, h2⟩ := kidI_mem.1 ht
  constructor
  · intro h
    have hx := ((hT.bel 4 t h1).2 x h).1
    exact ⟨hx, hT.top_of 4 4 t x h2 h1 h (hT.dep x hx)⟩
  · rintro ⟨hx, rfl⟩
    exact (hT.top_is hx).2
end Go.Pv
/- Sorts of rows of ints by a function, few elements. -/
namespace Go.Pv
open Go Go.Proofs

theorem i64p {n : Nat} (h : n ≤ 9223372036854775807) : IntKind.i64.wrap (((n + 1 : Nat) : Int) - 1) = (n : Int) := by rw [w64 (by omega) (by omega)]; omega
theorem rdN_i1 {α : Type} {xs : List Int} {i : Nat} {x : Int} (h : xs[i]? = some x) (K : List MV → Option α) : rdN (xs.map i1) i K = K (i1 x) := rdN_get (by simp [h]) K
theorem ovr_i1 (x d : Int) : ovr (i1 x) 0 [.int .i64 d] = i1 d := rfl
theorem set_i1 (o r : List Int) (x d : Int) : ((o ++ x :: r).map i1).set o.length (i1 d) = (o ++ d :: r).map i1 := by
  simp [List.map_append, List.set_append]
theorem i64k {i : Nat} (h : i < 9223372036854775807) : IntKind.i64.wrap ((i : Int) + 1) = ((i + 1 : Nat) : Int) := i64s h

/-- Into a row that is told from its end. -/
def insR (f : Int → Int → Int) : List Int → Int → List Int
  | [], x => [x]
  | y :: r, x => if f x y < 0 then y :: insR f r x else x :: y :: r
def srt (f : Int → Int → Int) (l : List Int) (r : List Int) : List Int := l.foldl (insR f) r
theorem insR_len (f : Int → Int → Int) : ∀ (r : List Int) (x : Int), (insR f r x).length = r.length + 1
  | [], x => rfl
  | y :: r, x => by unfold insR; split <;> simp [insR_len f r x]
theorem insR_mem {f : Int → Int → Int} : ∀ {r : List Int} {x z : Int}, z ∈ insR f r x ↔ z = x ∨ z ∈ r
  | [], x, z => by simp [insR]
  | y :: r, x, z => by
    unfold insR
    split
    · simp only [List.mem_cons, insR_mem (r := r)]
      constructor
      · rintro (h | h | h)
        · exact .inr (.inl h)
        · exact .inl h
        · exact .inr (.inr h)
      · rintro (h | h | h)
        · exact .inr (.inl h)
        · exact .inl h
        · exact .inr (.inr h)
    · simp

/-- What the comparison says. -/
def CmpOk (fu n : Nat) (g : FuncId) (c : List MV) (f : Int → Int → Int) (A : Int → Prop) : Prop := npL c = true ∧ ∀ a b, A a → A b → ev fu n g ([.int .i64 a, .int .i64 b] ++ c) [] = some ([.int .i64 (f a b)], [])

theorem ins_L2 (fu n k1 : Nat) (g : FuncId) (c : List MV) (f : Int → Int → Int) (A : Int → Prop) (hf : CmpOk fu n g c f A) (v2 v8 : Int) : ∀ (r : List Int) (x : Int) (t : List Int) (k2 : Nat), (∀ y ∈ r, A y) → A x → r.length < k2 → (r.length + t.length < 100000) →
    slices_insertionSortCmpFunc_int_L2 fu n k1 k2 ((r.reverse ++ x :: t).map i1) 0 v2 g c v8 (r.length : Nat) = slices_insertionSortCmpFunc_int_L1 fu n k1 (((insR f r x).reverse ++ t).map i1) 0 v2 g c (IntKind.i64.wrap (v8 + 1))
  | r, x, t, 0, hr, hx, hk, hl => by omega
  | [], x, t, k2 + 1, hr, hx, hk, hl => by
    rw [slices_insertionSortCmpFunc_int_L2_eq, cnd_decide, if_neg (by simp), slices_insertionSortCmpFunc_int_J1_eq, cnd_false]; rfl
  | y :: r, x, t, k2 + 1, hr, hx, hk, hl => by
    simp only [List.length_cons] at hk hl
    have hy : A y := hr y (by simp)
    have g1 : ((y :: r).reverse ++ x :: t)[r.length + 1]? = some x := by
      rw [List.getElem?_append_right (by simp)]; simp
    have g0 : ((y :: r).reverse ++ x :: t)[r.length]? = some y := by
      rw [List.getElem?_append_left (by simp), List.reverse_cons, List.getElem?_append_right (by simp)]; simp
    have w1 : IntKind.i64.wrap (((r.length + 1 : Nat) : Int) - 1) = (r.length : Int) := i64p (by omega)
    have hlen : (((y :: r).reverse ++ x :: t).map i1).length = r.length + 1 + (t.length + 1) := by simp; omega
    rw [slices_insertionSortCmpFunc_int_L2_eq, List.length_cons, cnd_decide, if_pos (by omega)]
    simp only [w1, Int.toNat_natCast, hlen, ixG_n (show r.length + 1 < r.length + 1 + (t.length + 1) by omega), ixG_n (show r.length < r.length + 1 + (t.length + 1) by omega), rdN_i1 g1, rdN_i1 g0]
    simp only [i1, cel_zero, dI_int, eqM_self']
    rw [npG_pos (by simpa using hf.1), hf.2 x y hx hy, rI_some]
    rw [slices_insertionSortCmpFunc_int_J1_eq]
    have e1 : (((y :: r).reverse ++ x :: t).map i1).set (r.length + 1) (i1 y) = ((y :: r).reverse ++ y :: t).map i1 := by
      have := set_i1 (y :: r).reverse t x y
      rw [List.length_reverse, List.length_cons] at this; exact this
    have e2 : (((y :: r).reverse ++ y :: t).map i1).set r.length (i1 x) = (r.reverse ++ x :: (y :: t)).map i1 := by
      have := set_i1 r.reverse (y :: t) y x
      rw [List.length_reverse] at this
      rw [List.reverse_cons, List.append_assoc]; exact this
    have hlen2 : (((y :: r).reverse ++ y :: t).map i1).length = r.length + 1 + (t.length + 1) := by simp; omega
    have g2 : ((y :: r).reverse ++ y :: t)[r.length]? = some y := by
      rw [List.getElem?_append_left (by simp), List.reverse_cons, List.getElem?_append_right (by simp)]; simp
    simp only [w1, Int.toNat_natCast, hlen, ixG_n (show r.length + 1 < r.length + 1 + (t.length + 1) by omega), ixG_n (show r.length < r.length + 1 + (t.length + 1) by omega), rdN_i1 g1, rdN_i1 g0, cnd_decide]
    unfold insR
    split
    · rename_i hlt
      simp only [i1, cel_zero, dI_int, eqM_self'] at e1 e2 ⊢
      have o1 : ovr [MV.int .i64 x] 0 [.int .i64 y] = [.int .i64 y] := rfl
      have o2 : ovr [MV.int .i64 y] 0 [.int .i64 x] = [.int .i64 x] := rfl
      rw [o1, e1, hlen2, ixG_n (by omega), rdN_i1 g2]
      simp only [i1, o2]
      rw [e2]
      have := ins_L2 fu n k1 g c f A hf v2 v8 r x (y :: t) k2 (fun z hz => hr z (List.mem_cons_of_mem _ hz)) hx (by omega) (by simp; omega)
      rw [this, List.reverse_cons, List.append_assoc]; rfl
    · simp only [List.reverse_cons, List.append_assoc]
      rfl

theorem ins_L1 (fu n : Nat) (g : FuncId) (c : List MV) (f : Int → Int → Int) (A : Int → Prop) (hf : CmpOk fu n g c f A) (hfu : 1000000 ≤ fu) : ∀ (t r : List Int) (k1 : Nat), (∀ y ∈ r, A y) → (∀ y ∈ t, A y) → t.length < k1 → r.length + t.length ≤ 50000 → 
    slices_insertionSortCmpFunc_int_L1 fu n k1 ((r.reverse ++ t).map i1) 0 ((r.length + t.length : Nat) : Int) g c (r.length : Nat) = some ([], [some (.row false 1 ((srt f t r).reverse.map i1) [])])
  | t, r, 0, hr, ht, hk, hl => by omega
  | [], r, k1 + 1, hr, ht, hk, hl => by
    rw [slices_insertionSortCmpFunc_int_L1_eq, cnd_decide, if_neg (by simp), List.append_nil]; rfl
  | x :: t, r, k1 + 1, hr, ht, hk, hl => by
    simp only [List.length_cons] at hk hl
    rw [slices_insertionSortCmpFunc_int_L1_eq, cnd_decide, if_pos (by simp only [List.length_cons]; omega)]
    rw [ins_L2 fu n k1 g c f A hf _ _ r x t fu hr (ht x (by simp)) (by omega) (by omega), i64k (by omega)]
    have h := ins_L1 fu n g c f A hf hfu t (insR f r x) k1 (fun y hy => by
      rcases insR_mem.1 hy with q | q
      · rw [q]; exact ht x (by simp)
      · exact hr y q) (fun y hy => ht y (List.mem_cons_of_mem _ hy)) (by omega) (by rw [insR_len]; omega)
    rw [insR_len, show r.length + 1 + t.length = r.length + (t.length + 1) from by omega] at h
    rw [List.length_cons, h]; rfl

theorem ins_ok (fu n : Nat) (g : FuncId) (c : List MV) (f : Int → Int → Int) (A : Int → Prop) (hf : CmpOk fu n g c f A) (hfu : 1000000 ≤ fu) (l : List Int) (hA : ∀ y ∈ l, A y) (hl : l.length ≤ 50000) :
    ev fu (n + 1) 151 [.ref 0, .int .i64 0, .int .i64 (l.length : Nat), .fn g c] [some (.row false 1 (l.map i1) [])] = some ([], [some (.row false 1 ((srt f l []).reverse.map i1) [])]) := by
  rw [slices_insertionSortCmpFunc_int_eq]
  cases l with
  | nil =>
    obtain ⟨k, rfl⟩ : ∃ k, fu = k + 1 := ⟨fu - 1, by omega⟩
    rw [slices_insertionSortCmpFunc_int_L1_eq, cnd_decide, if_neg (by decide)]; rfl
  | cons x t =>
    have h := ins_L1 fu n g c f A hf hfu t [x] fu (fun y hy => hA y (by simp at hy; simp [hy])) (fun y hy => hA y (by simp [hy])) (by simp at hl; omega) (by simp at hl ⊢; omega)
    have e : IntKind.i64.wrap ((0 : Int) + 1) = (([x] : List Int).length : Nat) := by
      show IntKind.i64.wrap ((0 : Int) + 1) = ((1 : Nat) : Int)
      decide
    have e2 : ((([x] : List Int).length + t.length : Nat) : Int) = (((x :: t).length : Nat) : Int) := by simp; omega
    rw [e2] at h
    rw [e]
    exact h

theorem srt_mem {f : Int → Int → Int} : ∀ {l r : List Int} {z : Int}, z ∈ srt f l r ↔ z ∈ l ∨ z ∈ r
  | [], r, z => by simp [srt]
  | x :: l, r, z => by
    have := srt_mem (f := f) (l := l) (r := insR f r x) (z := z)
    show z ∈ srt f l (insR f r x) ↔ _
    rw [this, insR_mem]
    simp only [List.mem_cons]
    constructor
    · rintro (h | h | h)
      · exact .inl (.inr h)
      · exact .inl (.inl h)
      · exact .inr h
    · rintro ((h | h) | h)
      · exact .inr (.inl h)
      · exact .inl h
      · exact .inr (.inr h)
/-- A strict order of what is to be sorted, each once. -/
structure Ord (f : Int → Int → Int) (A : Int → Prop) : Prop where
  irr : ∀ a, A a → ¬ f a a < 0
  trans : ∀ a b c, A a → A b → A c → f a b < 0 → f b c < 0 → f a c < 0
  tri : ∀ a b, A a → A b → a ≠ b → ¬ f a b < 0 → f b a < 0
theorem insR_ord {f : Int → Int → Int} {A : Int → Prop} (hO : Ord f A) : ∀ (r : List Int) (x : Int), (∀ y ∈ r, A y) → A x → x ∉ r → r.Pairwise (fun a b => f b a < 0) → (insR f r x).Pairwise (fun a b => f b a < 0)
  | [], x, _, _, _, _ => List.pairwise_singleton _ _
  | y :: r, x, hr, hx, hn, hp => by
    have hp := List.pairwise_cons.1 hp
    have hy := hr y (List.mem_cons_self ..)
    have hr' : ∀ z ∈ r, A z := fun z hz => hr z (List.mem_cons_of_mem _ hz)
    rw [insR]
    split
    · rename_i h
      refine List.pairwise_cons.2 ⟨fun z hz => ?_, insR_ord hO r x hr' hx (fun e => hn (List.mem_cons_of_mem _ e)) hp.2⟩
      rcases insR_mem.1 hz with rfl | hz
      · exact h
      · exact hp.1 z hz
    · rename_i h
      have hyx : f y x < 0 := hO.tri x y hx hy (fun e => hn (e ▸ List.mem_cons_self ..)) h
      refine List.pairwise_cons.2 ⟨fun z hz => ?_, List.pairwise_cons.2 hp⟩
      rcases List.mem_cons.1 hz with rfl | hz
      · exact hyx
      · exact hO.trans z y x (hr' z hz) hy hx (hp.1 z hz) hyx
theorem srt_ord {f : Int → Int → Int} {A : Int → Prop} (hO : Ord f A) : ∀ (l r : List Int), (∀ y ∈ r, A y) → (∀ y ∈ l, A y) → l.Nodup → (∀ y ∈ l, y ∉ r) → r.Pairwise (fun a b => f b a < 0) → (srt f l r).Pairwise (fun a b => f b a < 0)
  | [], r, _, _, _, _, hp => hp
  | x :: l, r, hr, hl, hn, hd, hp => by
    have hn := List.nodup_cons.1 hn
    have hx := hl x (List.mem_cons_self ..)
    show (srt f l (insR f r x)).Pairwise _
    refine srt_ord hO l _ (fun y hy => ?_) (fun y hy => hl y (List.mem_cons_of_mem _ hy)) hn.2 (fun y hy e => ?_) (insR_ord hO r x hr hx (hd x (List.mem_cons_self ..)) hp)
    · rcases insR_mem.1 hy with rfl | hy
      · exact hx
      · exact hr y hy
    · rcases insR_mem.1 e with rfl | e
      · exact hn.1 hy
      · exact hd y (List.mem_cons_of_mem _ hy) e
theorem Len_ev (fu n : Nat) (x : Int) (h : 0 ≤ x ∧ x ≤ 18446744073709551615) : ∃ y : Int, ev fu (n + 1) 117 [.int .u64 x] [] = some ([.int .i64 y], []) := by
  have e : ev fu (n + 1) 117 [.int .u64 x] [] = blenH (evs fu n) [.int .u64 x] [] := rfl
  exact ⟨_, by rw [e]; exact if_pos h⟩
/-- slices.SortFunc, at most 12 elements. -/
theorem SortFunc_ok (fu n : Nat) (g : FuncId) (c : List MV) (f : Int → Int → Int) (A : Int → Prop) (hf : CmpOk fu n g c f A) (hfu : 1000000 ≤ fu) (l : List Int) (hA : ∀ y ∈ l, A y) (hl : l.length ≤ 12) :
    ev fu (n + 3) 83 [.ref 0, .fn g c] [some (.row false 1 (l.map i1) [])] = some ([], [some (.row false 1 ((srt f l []).reverse.map i1) [])]) := by
  have hi := ins_ok fu n g c f A hf hfu l hA (by omega)
  obtain ⟨y, hy⟩ := Len_ev fu (n + 1) (IntKind.u64.wrap (l.length : Nat)) (by rw [wu64 (by omega) (by omega)]; omega)
  obtain ⟨k, rfl⟩ : ∃ k, fu = k + 1 := ⟨fu - 1, by omega⟩
  rw [slices_SortFunc_Sint_int_eq, List.length_map, hy, rI_some, npG_pos hf.1, slices_pdqsortCmpFunc_int_eq, slices_pdqsortCmpFunc_int_L1_eq, cnd_decide]
  have hw : IntKind.i64.wrap ((l.length : Nat) - 0 : Int) = (l.length : Nat) := by rw [w64 (by omega) (by omega)]; omega
  rw [hw, if_pos (by omega), npG_pos hf.1, hi]
  rfl
end Go.Pv
