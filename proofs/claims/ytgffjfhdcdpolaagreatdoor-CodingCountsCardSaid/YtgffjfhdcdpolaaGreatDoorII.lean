/- Chapter 1: items; the reference's checks of them. -/
import Derived.Test.YtgffjfhdcdpolaaGreatDoorC2
import Derived.Test.YtgffjfhdcdpolaaGreatDoorH3
import Derived.Test.YtgffjfhdcdpolaaGreatDoorC5
import Derived.Test.YtgffjfhdcdpolaaGreatDoorC6
import Derived.Test.YtgffjfhdcdpolaaGreatDoorCK
set_option linter.unusedSimpArgs false
set_option linter.unusedVariables false
set_option maxRecDepth 100000
namespace Go.Pv
open Go Go.Proofs

structure Item where
  id : ByteArray
  cust : ByteArray
  kind : Int
  name : ByteArray
  at_ : Int
  parent : ByteArray
  text : ByteArray
def itemC (x : Item) : List MV := [.str x.id, .str x.cust, .int .i64 x.kind, .str x.name, .int .i64 x.at_, .str x.parent, .str x.text]
@[simp] theorem itemC_len (x : Item) : (itemC x).length = 7 := rfl
section
variable {α : Type}
theorem rdItem {xs : List Item} {i : Nat} (h : i < xs.length) (K : ByteArray → ByteArray → Int → ByteArray → Int → ByteArray → ByteArray → Option α) :
    rd (xs.map itemC) (i : Int) (fun e => gd (e.length = 7) (gd (0 + 7 ≤ e.length) (unC (List.take 7 (List.drop 0 e)) fun m2 c3 => (dS m2 fun x4 => (unC c3 fun m5 c6 => (dS m5 fun x7 => (unC c6 fun m8 c9 => (dI .i64 m8 fun x10 => (unC c9 fun m11 c12 => (dS m11 fun x13 => (unC c12 fun m14 c15 => (dI .i64 m14 fun x16 => (unC c15 fun m17 c18 => (dS m17 fun x19 => (unC c18 fun m20 c21 => (dS m20 fun x22 => (unN c21 (K x4 x7 x10 x13 x16 x19 x22)))))))))))))))))) =
      K xs[i].id xs[i].cust xs[i].kind xs[i].name xs[i].at_ xs[i].parent xs[i].text := by
  rw [rdm h, gd_pos (itemC_len _), gd_pos (by simp)]
  simp [itemC]
theorem rdPar {xs : List Item} {i : Nat} {x : Item} (h : xs[i]? = some x) (K : ByteArray → Option α) : rd (xs.map itemC) (i : Int) (fun e => gd (e.length = 7) (cel e 5 fun m => dS m K)) = K x.parent := by
  rw [rdn h, gd_pos (itemC_len _)]; rfl
theorem rdKnd {xs : List Item} {i : Nat} {x : Item} (h : xs[i]? = some x) (K : Int → Option α) : rd (xs.map itemC) (i : Int) (fun e => gd (e.length = 7) (cel e 2 fun m => dI .i64 m K)) = K x.kind := by
  rw [rdn h, gd_pos (itemC_len _)]
  show dI .i64 (.int .i64 x.kind) K = _
  rw [dI_int]
end
/-! ### First errors, step by step -/
theorem out_fnz (a : Int) (r : List Int) : (some ([.int .i64 (fnz (a :: r))], []) : Out) = errO a (some ([.int .i64 (fnz r)], [])) := by
  unfold errO; rw [fnz]; split <;> rfl
theorem errO_congr {a : Int} {o o' : Out} (h : a = 0 → o = o') : errO a o = errO a o' := by
  unfold errO; split
  · exact h ‹_›
  · rfl
/-! ### Strings -/
def visC (feeds : Bool) (x : Int) : Bool := !((decide (x < 32) && !(feeds && decide (x = 10))) || decide (x = 127))
def visFrom (feeds : Bool) (s : ByteArray) (i : Nat) : Nat → Bool
  | 0 => true
  | m + 1 => visC feeds (bAt s i) && visFrom feeds s (i + 1) m
def validB (s : ByteArray) : Bool := Go.Lib.validD s.data.toList
def trimB (s : ByteArray) : ByteArray := ⟨(Go.Lib.trimS s.data.toList [32]).toArray⟩
def twoB (s : ByteArray) : Bool := decide (0 ≤ Go.Lib.index s.data.toList [32, 32])
def plainS (s : ByteArray) : Bool := visFrom false s 0 s.size && (validB s && (decide (trimB s = s) && !twoB s))
def textS (s : ByteArray) : Bool := visFrom true s 0 s.size && (validB s && (decide (s = ⟨#[]⟩) || decide (bAt s (s.size - 1) = 10)))
theorem Valid_ev (fu n : Nat) (s : ByteArray) (h : s.size ≤ 9223372036854775807) : ev fu (n + 1) 155 [.str s] [] = some ([.bool (validB s)], []) := by
  have e : ev fu (n + 1) 155 [.str s] [] = validH (evs fu n) [.str s] [] := rfl
  rw [e]; exact if_pos h
theorem Repeat_ev (fu n : Nat) (s : ByteArray) (c : Nat) (h : c ≤ 9223372036854775807 ∧ s.size * c ≤ 140737488355328) : ev fu (n + 1) 114 [.str s, .int .i64 c] [] = some ([.str ⟨(Go.Lib.repeatL s.data.toList c).toArray⟩], []) := by
  have e : ev fu (n + 1) 114 [.str s, .int .i64 c] [] = repeatH (evs fu n) [.str s, .int .i64 c] [] := rfl
  rw [e]; exact if_pos ⟨by omega, by omega, by simpa using h.2⟩
theorem Idx_ev (fu n : Nat) (s c : ByteArray) (h : s.size < 4294967281) : ev fu (n + 1) 173 [.str s, .str c] [] = some ([.int .i64 (Go.Lib.index s.data.toList c.data.toList)], []) := by
  have h1 : ev fu (n + 1) 173 [.str s, .str c] [] = indexH (evs fu n) [.str s, .str c] [] := rfl
  rw [h1]; exact if_pos h
theorem Contains_ev (fu n : Nat) (s c : ByteArray) (h : s.size < 4294967281) : ev fu (n + 3) 156 [.str s, .str c] [] = some ([.bool (decide (0 ≤ Go.Lib.index s.data.toList c.data.toList))], []) := by
  rw [strings_Contains_eq, strings_Index_eq, Idx_ev fu n s c h, rI_some, rI_some]
theorem Plain_L1 (fu n : Nat) (s : ByteArray) (hs : s.size ≤ 400000) : ∀ (m i k1 : Nat), i + m = s.size → m < k1 →
    chaseref2_Plain_L1 fu (n + 3) k1 s (s.size : Nat) (i : Nat) = some ([.bool (visFrom false s i m && (validB s && (decide (trimB s = s) && !twoB s)))], [])
  | m, i, 0, hi, hk => by omega
  | 0, i, k1 + 1, hi, hk => by
    have ht : ev fu (n + 3) 129 [.str s, .str ⟨#[32]⟩] [] = some ([.str (trimB s)], []) := Trim_ev fu (n + 2) s ⟨#[32]⟩ ⟨by omega, by decide, by decide⟩
    have hc : ev fu (n + 3) 156 [.str s, .str ⟨#[32, 32]⟩] [] = some ([.bool (twoB s)], []) := Contains_ev fu n s ⟨#[32, 32]⟩ (by omega)
    rw [chaseref2_Plain_L1_eq, cnd_decide, if_neg (by omega), Valid_ev fu (n + 2) s (by omega), rB_some, ht, rS_some, hc, rB_some]
    unfold visFrom
    rw [Bool.true_and]
    cases validB s <;> cases decide (trimB s = s) <;> rfl
  | m + 1, i, k1 + 1, hi, hk => by
    rw [chaseref2_Plain_L1_eq, cnd_decide, if_pos (by omega), ixS_pos (by omega) (by omega), ixS_pos (by omega) (by omega), Int.toNat_natCast, i64s (by omega), Plain_L1 fu n s hs m (i + 1) k1 (by omega) (by omega), visFrom]
    unfold visC
    cases decide (bAt s i < 32) <;> cases decide (bAt s i = 127) <;> rfl
theorem Plain_ok (fu n : Nat) (s : ByteArray) (hs : s.size ≤ 400000) (hfu : 1000000 ≤ fu) : ev fu (n + 4) 115 [.str s] [] = some ([.bool (plainS s)], []) := by
  rw [chaseref2_Plain_eq]
  exact Plain_L1 fu n s hs s.size 0 fu (by omega) (by omega)
theorem IsText_L1 (fu n : Nat) (s : ByteArray) (hs : s.size ≤ 400000) : ∀ (m i k1 : Nat), i + m = s.size → m < k1 →
    chaseref2_IsText_L1 fu (n + 1) k1 s (s.size : Nat) (i : Nat) = some ([.bool (visFrom true s i m && (validB s && (decide (s = ⟨#[]⟩) || decide (bAt s (s.size - 1) = 10))))], [])
  | m, i, 0, hi, hk => by omega
  | 0, i, k1 + 1, hi, hk => by
    rw [chaseref2_IsText_L1_eq, cnd_decide, if_neg (by omega), Valid_ev fu n s (by omega), rB_some]
    unfold visFrom
    rw [Bool.true_and]
    cases validB s with
    | false => rfl
    | true =>
      rw [cnd_true, Bool.true_and]
      by_cases h0 : s = ⟨#[]⟩
      · rw [decide_eq_true h0]; rfl
      · have hp : 1 ≤ s.size := by
          rcases Nat.eq_zero_or_pos s.size with h | h
          · exfalso; apply h0
            apply ByteArray.ext
            exact Array.eq_empty_of_size_eq_zero h
          · exact h
        have hw : IntKind.i64.wrap ((s.size : Int) - 1) = ((s.size - 1 : Nat) : Int) := by rw [w64 (by omega) (by omega)]; omega
        rw [decide_eq_false h0, cnd_false, hw, ixS_pos (by omega) (by omega), Int.toNat_natCast, Bool.false_or]
  | m + 1, i, k1 + 1, hi, hk => by
    rw [chaseref2_IsText_L1_eq, cnd_decide, if_pos (by omega), ixS_pos (by omega) (by omega), ixS_pos (by omega) (by omega), ixS_pos (by omega) (by omega), Int.toNat_natCast, i64s (by omega), IsText_L1 fu n s hs m (i + 1) k1 (by omega) (by omega), visFrom]
    unfold visC
    cases decide (bAt s i < 32) <;> cases decide (bAt s i = 127) <;> cases decide (bAt s i = 10) <;> rfl
theorem IsText_ok (fu n : Nat) (s : ByteArray) (hs : s.size ≤ 400000) (hfu : 1000000 ≤ fu) : ev fu (n + 2) 116 [.str s] [] = some ([.bool (textS s)], []) := by
  rw [chaseref2_IsText_eq]
  exact IsText_L1 fu n s hs s.size 0 fu (by omega) (by omega)
/-! ### One item -/
def itE (x : Item) : Int :=
  fnz [if (!keyS x.id) = true then 5 else 0, if (!keyS x.cust) = true then 5 else 0, if (!inB x.kind 1 4) = true then 4 else 0, if decide ((120 : Int) < (x.name.size : Int)) = true then 2 else 0, if (!plainS x.name) = true then 3 else 0,
    if (!inB x.at_ 0 5761439) = true then 1 else 0, if (!decide (x.parent = ⟨#[]⟩) && !keyS x.parent) = true then 5 else 0, if decide (x.parent = x.id) = true then 14 else 0, if decide ((20000 : Int) < (x.text.size : Int)) = true then 2 else 0, if (!textS x.text) = true then 3 else 0]
theorem ItemFault_ok (fu n : Nat) (x : Item) (hfu : 1000000 ≤ fu) : ev fu (n + 5) 82 [.agg (itemC x)] [] = some ([.int .i64 (itE x)], []) := by
  unfold itE itemC
  rw [chaseref2_ItemFault_eq, RKey_ok fu (n + 1), rB_some, cnd_errc _ _ (by decide), out_fnz]
  refine errO_congr fun _ => ?_
  rw [RKey_ok fu (n + 1), rB_some, cnd_errc _ _ (by decide), out_fnz]
  refine errO_congr fun _ => ?_
  rw [in_ok, rB_some, cnd_errc _ _ (by decide), out_fnz]
  refine errO_congr fun _ => ?_
  rw [cnd_errc _ _ (by decide), out_fnz]
  refine errO_congr fun h => ?_
  have hn : x.name.size ≤ 120 := by
    by_cases h1 : (120 : Int) < (x.name.size : Int)
    · rw [decide_eq_true h1] at h; exact absurd h (by decide)
    · omega
  rw [Plain_ok fu n x.name (by omega) hfu, rB_some, cnd_errc _ _ (by decide), out_fnz]
  refine errO_congr fun _ => ?_
  rw [in_ok, rB_some, cnd_errc _ _ (by decide), out_fnz]
  refine errO_congr fun _ => ?_
  have rest : (cnd (decide (x.parent = x.id)) (some ([.int .i64 (14 : Int)], [])) (cnd (decide ((20000 : Int) < (x.text.size : Int))) (some ([.int .i64 (2 : Int)], [])) (rB (ev fu (n + 4) 116 [.str x.text] []) fun x7 => (cnd (!x7) (some ([.int .i64 (3 : Int)], [])) (some ([.int .i64 (0 : Int)], []))))) : Out) = some ([.int .i64 (fnz [if decide (x.parent = x.id) = true then 14 else 0, if decide ((20000 : Int) < (x.text.size : Int)) = true then 2 else 0, if (!textS x.text) = true then 3 else 0])], []) := by
    rw [cnd_errc _ _ (by decide), out_fnz]
    refine errO_congr fun _ => ?_
    rw [cnd_errc _ _ (by decide), out_fnz]
    refine errO_congr fun h => ?_
    have hn : x.text.size ≤ 20000 := by
      by_cases h1 : (20000 : Int) < (x.text.size : Int)
      · rw [decide_eq_true h1] at h; exact absurd h (by decide)
      · omega
    rw [IsText_ok fu (n + 2) x.text (by omega) hfu, rB_some, cnd_errc _ _ (by decide), out_fnz]; rfl
  rw [RKey_ok fu (n + 1), rB_some, rest, out_fnz (if (!decide (x.parent = ⟨#[]⟩) && !keyS x.parent) = true then 5 else 0)]
  cases decide (x.parent = (⟨#[]⟩ : ByteArray)) with
  | true => rw [Bool.not_true, cnd_false, Bool.false_and]; rfl
  | false => rw [Bool.not_false, cnd_true, Bool.true_and, cnd_errc _ _ (by decide)]
/-! ### Places -/
def plc (l : List Item) (id : ByteArray) : Int := fIx (fun x => decide (x.id = id)) 0 l
theorem IndexFuncI_ok (fu n : Nat) (g : FuncId) (c : List MV) (p : Item → Bool) (hc : npL c = true) (hf : ∀ a, ev fu n g ([.agg (itemC a)] ++ c) [] = some ([.bool (p a)], [])) (l : List Item) (hl : l.length ≤ 400000) (hfu : 1000000 ≤ fu) :
    ev fu (n + 1) 157 [.list (l.map itemC), .fn g c] [] = some ([.int .i64 (fIx p 0 l)], []) := by
  have h := find_loop l p (fun k i => slices_IndexFunc_Sapi_Item_api_Item_L1 fu n k (l.map itemC) g c (l.length : Nat) i)
    (fun k => by rw [slices_IndexFunc_Sapi_Item_api_Item_L1_eq, cnd_decide, if_neg (by omega)])
    (fun k i hi => by
      have h1 := hf l[i]
      have h2 : npL ([.agg (itemC l[i])] ++ c) = true := by rw [npL_append, hc]; rfl
      unfold itemC at h1 h2
      rw [slices_IndexFunc_Sapi_Item_api_Item_L1_eq, cnd_decide, if_pos (by omega), rdItem hi, npG_pos h2, h1, rB_some, i64s (by omega)]
      cases p l[i] <;> rfl) l.length 0 fu (by omega) (by omega)
  rw [slices_IndexFunc_Sapi_Item_api_Item_eq, List.length_map]
  exact h
theorem place_ok (fu n : Nat) (l : List Item) (id : ByteArray) (hl : l.length ≤ 400000) (hfu : 1000000 ≤ fu) : ev fu (n + 3) 117 [.list (l.map itemC), .str id] [] = some ([.int .i64 (plc l id)], []) := by
  rw [chaseref2_place_eq, IndexFuncI_ok fu (n + 1) 158 _ (fun x => decide (x.id = id)) rfl (fun a => by
    show ev fu (n + 1) 158 [.agg (itemC a), .cptr [.str id] 0] [] = _
    unfold itemC
    rw [chaseref2_place_1_eq]; rfl) l hl hfu, rI_some]; rfl
theorem plc_range (l : List Item) (id : ByteArray) : plc l id = -1 ∨ ∃ (k : Nat) (y : Item), plc l id = k ∧ l[k]? = some y ∧ y.id = id := by
  rcases fIx_find (fun x : Item => decide (x.id = id)) l 0 with ⟨h, _⟩ | ⟨k, x, h1, h2, h3⟩
  · exact .inl h
  · refine .inr ⟨k, x, by unfold plc; rw [h1]; simp, h2, ?_⟩
    have := List.find?_some h3
    simpa using this
/-! ### What is above -/
def abvF (l : List Item) (on : Bool) : Nat → List Int → Int → List Int × Bool
  | 0, out, _ => (out, true)
  | m + 1, out, k => if (decide (0 ≤ k) && on) = true then (if l.length < (out ++ [k]).length then (out ++ [k], false) else match l[k.toNat]? with
    | some y => if y.parent = ⟨#[]⟩ then (out ++ [k], true) else abvF l on m (out ++ [k]) (plc l y.parent)
    | none => (out ++ [k], true)) else (out, true)
def abv (l : List Item) (i : Nat) : List Int × Bool := match l[i]? with
  | some x => abvF l (!decide (x.parent = ⟨#[]⟩)) (l.length + 1) [] (plc l x.parent)
  | none => ([], true)
theorem abvF_len (l : List Item) (on : Bool) : ∀ (m : Nat) (out : List Int) (k : Int), (abvF l on m out k).1.length ≤ out.length + m
  | 0, out, k => by simp [abvF]
  | m + 1, out, k => by
    rw [abvF]
    split
    · split
      · simp
      · split
        · split
          · simp
          · have := abvF_len l on m (out ++ [k]) (plc l ‹Item›.parent)
            simp at this; omega
        · simp
    · simp
theorem abv_len (l : List Item) (i : Nat) : (abv l i).1.length ≤ l.length + 1 := by
  unfold abv
  split
  · have := abvF_len l (!decide (‹Item›.parent = ⟨#[]⟩)) (l.length + 1) [] (plc l ‹Item›.parent)
    simpa using this
  · simp
theorem above_L1 (fu n : Nat) (l : List Item) (hl : l.length ≤ 200000) (hfu : 1000000 ≤ fu) (i : Nat) (x : Item) (hx : l[i]? = some x) : ∀ (m k1 : Nat) (out : List Int) (k : Int), out.length + (m + 1) = l.length + 1 → m < k1 → (k = -1 ∨ ∃ (j : Nat) (y : Item), k = j ∧ l[j]? = some y) →
    chaseref2_above_L1 fu (n + 3) (k1 + 1) (l.map itemC) (i : Nat) (out.map i1) k = some ([.list ((abvF l (!decide (x.parent = ⟨#[]⟩)) (m + 1) out k).1.map i1), .bool (abvF l (!decide (x.parent = ⟨#[]⟩)) (m + 1) out k).2], []) := by
  intro m
  induction m with
  | zero =>
    intro k1 out k ho hk hr
    obtain ⟨k1, rfl⟩ : ∃ q, k1 = q + 1 := ⟨k1 - 1, by omega⟩
    rw [chaseref2_above_L1_eq, rdPar hx, abvF]
    rcases hr with rfl | ⟨j, y, rfl, hy⟩
    · rw [cnd_decide, if_neg (by decide), chaseref2_above_J1_eq, cnd_false]; rfl
    · rw [cnd_decide, if_pos (by omega), chaseref2_above_J1_eq, decide_eq_true (show (0 : Int) ≤ (j : Int) by omega), Bool.true_and]
      have e : out.map i1 ++ [[.int .i64 (j : Int)]] = (out ++ [(j : Int)]).map i1 := by rw [List.map_append]; rfl
      cases !decide (x.parent = (⟨#[]⟩ : ByteArray)) with
      | false => rfl
      | true =>
        rw [cnd_true, gL_pos (by simp; omega), e, cnd_decide, if_pos (by simp; omega), if_pos rfl, if_pos (by simp; omega)]
  | succ m ih =>
    intro k1 out k ho hk hr
    obtain ⟨k1, rfl⟩ : ∃ q, k1 = q + 1 := ⟨k1 - 1, by omega⟩
    rw [chaseref2_above_L1_eq, rdPar hx, abvF]
    rcases hr with rfl | ⟨j, y, rfl, hy⟩
    · rw [cnd_decide, if_neg (by decide), chaseref2_above_J1_eq, cnd_false]; rfl
    · rw [cnd_decide, if_pos (by omega), chaseref2_above_J1_eq, decide_eq_true (show (0 : Int) ≤ (j : Int) by omega), Bool.true_and]
      have e : out.map i1 ++ [[.int .i64 (j : Int)]] = (out ++ [(j : Int)]).map i1 := by rw [List.map_append]; rfl
      have ih' := ih k1 (out ++ [(j : Int)]) (plc l y.parent) (by simp; omega) (by omega) (by
        rcases plc_range l y.parent with h | ⟨q, z, h1, h2, _⟩
        · exact .inl h
        · exact .inr ⟨q, z, h1, h2⟩)
      cases hp : !decide (x.parent = (⟨#[]⟩ : ByteArray)) with
      | false => rfl
      | true =>
        rw [hp] at ih'
        rw [cnd_true, gL_pos (by simp; omega), e, cnd_decide, if_neg (by simp; omega), if_pos rfl, if_neg (by simp; omega), rdPar hy, rdPar hy, place_ok fu n l y.parent (by omega) hfu, rI_some, cnd_decide, Int.toNat_natCast, hy]
        simp only
        by_cases hq : y.parent = ⟨#[]⟩
        · rw [if_pos hq, if_pos hq]
        · rw [if_neg hq, if_neg hq]; exact ih'
theorem above_ok (fu n : Nat) (l : List Item) (hl : l.length ≤ 200000) (hfu : 1000000 ≤ fu) (i : Nat) (hi : i < l.length) : ev fu (n + 4) 160 [.list (l.map itemC), .int .i64 (i : Nat)] [] = some ([.list ((abv l i).1.map i1), .bool (abv l i).2], []) := by
  have hx : l[i]? = some l[i] := List.getElem?_eq_getElem hi
  obtain ⟨k1, rfl⟩ : ∃ q, fu = q + 1 := ⟨fu - 1, by omega⟩
  have h := above_L1 (k1 + 1) n l hl hfu i l[i] hx l.length k1 [] (plc l l[i].parent) (by simp) (by omega) (by
    rcases plc_range l l[i].parent with h | ⟨q, z, h1, h2, _⟩
    · exact .inl h
    · exact .inr ⟨q, z, h1, h2⟩)
  rw [chaseref2_above_eq, rdPar hx, place_ok (k1 + 1) n l _ (by omega) hfu, rI_some]
  unfold abv
  rw [hx]
  exact h
end Go.Pv
/- Chapter 1: items together; the reference's checks of them. -/
namespace Go.Pv
open Go Go.Proofs

def iIx (x : Int) (l : List Int) : Int := fIx (fun y => decide (x = y)) 0 l
theorem IndexI_ok (fu n : Nat) (l : List Int) (x : Int) (hl : l.length ≤ 400000) (hfu : 1000000 ≤ fu) : ev fu (n + 1) 215 [.list (l.map i1), .int .i64 x] [] = some ([.int .i64 (iIx x l)], []) := by
  have h := find_loop l (fun y => decide (x = y)) (fun k i => slices_Index_Sint_int_L1 fu n k (l.map i1) x (l.length : Nat) i)
    (fun k => by rw [slices_Index_Sint_int_L1_eq, cnd_decide, if_neg (by omega)])
    (fun k i hi => by
      rw [slices_Index_Sint_int_L1_eq, cnd_decide, if_pos (by omega), rdm hi, gd_pos (i1_len _)]
      simp only [i1, cel_zero, dI_int]
      rw [i64s (by omega)]
      cases decide (x = l[i]) <;> rfl) l.length 0 fu (by omega) (by omega)
  rw [slices_Index_Sint_int_eq, List.length_map]
  exact h
theorem ContainsI_ok (fu n : Nat) (l : List Int) (x : Int) (hl : l.length ≤ 400000) (hfu : 1000000 ≤ fu) : ev fu (n + 2) 196 [.list (l.map i1), .int .i64 x] [] = some ([.bool (l.any fun y => decide (x = y))], []) := by
  rw [slices_Contains_Sint_int_eq, IndexI_ok fu n l x hl hfu, rI_some]
  unfold iIx
  rw [fIx_any]
def retB (l : List Item) (i : Nat) : Bool := (abv l i).1.any fun y => decide ((i : Int) = y)
theorem returns_ok (fu n : Nat) (l : List Item) (hl : l.length ≤ 200000) (hfu : 1000000 ≤ fu) (i : Nat) (hi : i < l.length) : ev fu (n + 5) 159 [.list (l.map itemC), .int .i64 (i : Nat)] [] = some ([.bool (retB l i)], []) := by
  have := abv_len l i
  rw [chaseref2_returns_eq, above_ok fu n l hl hfu i hi]
  simp only [callE_some', unXN_nil, unC_cons, dL_list, dB_bool, unN_nil]
  rw [ContainsI_ok fu (n + 2) _ _ (by omega) hfu, rB_some]; rfl
/-- A parent of a wrong kind. -/
def parK (l : List Item) (x : Item) : Int := match l[(plc l x.parent).toNat]? with
  | some y => if (!decide (x.parent = ⟨#[]⟩) && (decide (0 ≤ plc l x.parent) && (!decide (y.kind = 1) && !decide (y.kind = 3)))) = true then 16 else 0
  | none => 0
def treeE (l : List Item) : Int := fnz [(errL (σ := Unit) (fun i _ _ => if retB l i = true then 14 else 0) (fun _ s _ => s) 0 () l).1, (errL (σ := Unit) (fun i _ x => fnz [parK l x, if decide ((4 : Int) < ((abv l i).1.length : Int)) = true then 2 else 0]) (fun _ s _ => s) 0 () l).1]
theorem treeFault_L2 (fu n : Nat) (l : List Item) (hl : l.length ≤ 200000) (hfu : 1000000 ≤ fu) : chaseref2_treeFault_L2 fu (n + 5) fu (l.map itemC) (l.length : Nat) (0 : Int) = some ([.int .i64 (errL (σ := Unit) (fun i _ x => fnz [parK l x, if decide ((4 : Int) < ((abv l i).1.length : Int)) = true then 2 else 0]) (fun _ s _ => s) 0 () l).1], []) := by
  have h := err_loop l (fun k i (_ : Unit) => chaseref2_treeFault_L2 fu (n + 5) k (l.map itemC) (l.length : Nat) i) (fun i _ x => fnz [parK l x, if decide ((4 : Int) < ((abv l i).1.length : Int)) = true then 2 else 0]) (fun _ s _ => s) (fun _ => some ([.int .i64 0], []))
    (fun k s => by rw [chaseref2_treeFault_L2_eq, cnd_decide, if_neg (by omega)])
    (fun k i s hi => by
      have hx : l[i]? = some l[i] := List.getElem?_eq_getElem hi
      have ha := above_ok fu (n + 1) l hl hfu i hi
      rw [chaseref2_treeFault_L2_eq, cnd_decide, if_pos (by omega), rdPar hx, place_ok fu (n + 2) l _ (by omega) hfu, rI_some, rdPar hx, ha, i64s (by omega)]
      simp only [callE_some', unXN_nil, unC_cons, dL_list, dB_bool, unN_nil, List.length_map]
      rw [cnd_errc _ _ (show (2 : Int) ≠ 0 by decide), ← errO_errO]
      generalize errO _ (chaseref2_treeFault_L2 fu (n + 5) k (l.map itemC) (l.length : Nat) ((i + 1 : Nat) : Int)) = o
      unfold parK
      rcases plc_range l l[i].parent with h | ⟨q, y, h1, h2, _⟩
      · rw [h]
        have e : ((match l[(-1 : Int).toNat]? with | some y => if (!decide (l[i].parent = ⟨#[]⟩) && (decide ((0 : Int) ≤ -1) && (!decide (y.kind = 1) && !decide (y.kind = 3)))) = true then 16 else 0 | none => 0) : Int) = 0 := by
          split
          · rw [decide_eq_false (show ¬ (0 : Int) ≤ -1 by decide), Bool.false_and, Bool.and_false]; rfl
          · rfl
        rw [e, errO_0]
        cases decide (l[i].parent = (⟨#[]⟩ : ByteArray)) <;> rfl
      · rw [h1, Int.toNat_natCast, h2, rdKnd h2, rdKnd h2, decide_eq_true (show (0 : Int) ≤ (q : Int) by omega)]
        simp only
        cases decide (l[i].parent = (⟨#[]⟩ : ByteArray)) <;> cases decide (y.kind = 1) <;> cases decide (y.kind = 3) <;> rfl) l.length 0 fu () (by omega) (by omega)
  rw [List.drop_zero, errO_fin] at h
  exact h
theorem treeFault_ok (fu n : Nat) (l : List Item) (hl : l.length ≤ 200000) (hfu : 1000000 ≤ fu) : ev fu (n + 6) 118 [.list (l.map itemC)] [] = some ([.int .i64 (treeE l)], []) := by
  have h := err_loop l (fun k i (_ : Unit) => chaseref2_treeFault_L1 fu (n + 5) k (l.map itemC) (l.length : Nat) i) (fun i _ _ => if retB l i = true then 14 else 0) (fun _ s _ => s) (fun _ => chaseref2_treeFault_L2 fu (n + 5) fu (l.map itemC) (l.length : Nat) (0 : Int))
    (fun k s => by rw [chaseref2_treeFault_L1_eq, cnd_decide, if_neg (by omega), List.length_map])
    (fun k i s hi => by
      rw [chaseref2_treeFault_L1_eq, cnd_decide, if_pos (by omega), returns_ok fu n l hl hfu i hi, rB_some, cnd_errc _ _ (by decide), i64s (by omega)]) l.length 0 fu () (by omega) (by omega)
  rw [List.drop_zero, treeFault_L2 fu n l hl hfu] at h
  rw [chaseref2_treeFault_eq, List.length_map]
  unfold treeE
  rw [out_fnz, out_fnz]
  refine h.trans (errO_congr fun _ => ?_)
  exact (errO_fin _).symm
/-- The errors of items. -/
def itemsL (l : List Item) : Int := (errL (fun _ last x => fnz [itE x, if (sless x.id last || decide (x.id = last)) = true then 7 else 0]) (fun _ _ x => x.id) 0 (⟨#[]⟩ : ByteArray) l).1
def parL (l : List Item) : Int := (errL (σ := Unit) (fun _ _ x => if (!decide (x.parent = ⟨#[]⟩) && decide (plc l x.parent < 0)) = true then 8 else 0) (fun _ s _ => s) 0 () l).1
def itemsE (l : List Item) : Int := fnz [if decide ((2000 : Int) < (l.length : Int)) = true then 2 else 0, itemsL l, parL l, treeE l]
theorem ItemsFault_L2 (fu n : Nat) (l : List Item) (hl : l.length ≤ 200000) (hfu : 1000000 ≤ fu) : chaseref2_ItemsFault_L2 fu (n + 6) fu (l.map itemC) (l.map itemC) (l.length : Nat) (0 : Int) = some ([.int .i64 (fnz [parL l, treeE l])], []) := by
  have h := err_loop l (fun k i (_ : Unit) => chaseref2_ItemsFault_L2 fu (n + 6) k (l.map itemC) (l.map itemC) (l.length : Nat) i) (fun _ _ x => if (!decide (x.parent = ⟨#[]⟩) && decide (plc l x.parent < 0)) = true then 8 else 0) (fun _ s _ => s) (fun _ => some ([.int .i64 (treeE l)], []))
    (fun k s => by rw [chaseref2_ItemsFault_L2_eq, cnd_decide, if_neg (by omega), treeFault_ok fu n l hl hfu, rI_some])
    (fun k i s hi => by
      rw [chaseref2_ItemsFault_L2_eq, cnd_decide, if_pos (by omega), rdItem hi, place_ok fu (n + 3) l _ (by omega) hfu, rI_some, i64s (by omega), cnd_errc _ _ (show (8 : Int) ≠ 0 by decide)]
      cases decide (l[i].parent = (⟨#[]⟩ : ByteArray)) <;> rfl) l.length 0 fu () (by omega) (by omega)
  rw [List.drop_zero] at h
  rw [out_fnz, out_fnz]
  refine h.trans (errO_congr fun _ => ?_)
  exact (errO_fin _).symm
theorem ItemsFault_ok (fu n : Nat) (l : List Item) (hfu : 1000000 ≤ fu) : ev fu (n + 7) 83 [.list (l.map itemC)] [] = some ([.int .i64 (itemsE l)], []) := by
  rw [chaseref2_ItemsFault_eq, List.length_map, cnd_errc _ _ (show (2 : Int) ≠ 0 by decide)]
  unfold itemsE
  rw [out_fnz]
  refine errO_congr fun h0 => ?_
  have hl : l.length ≤ 2000 := by
    by_cases h1 : (2000 : Int) < (l.length : Int)
    · rw [decide_eq_true h1] at h0; exact absurd h0 (by decide)
    · omega
  have h := err_loop l (fun k i (s : ByteArray) => chaseref2_ItemsFault_L1 fu (n + 6) k (l.map itemC) s (l.map itemC) (l.length : Nat) i) (fun _ last x => fnz [itE x, if (sless x.id last || decide (x.id = last)) = true then 7 else 0]) (fun _ _ x => x.id) (fun _ => chaseref2_ItemsFault_L2 fu (n + 6) fu (l.map itemC) (l.map itemC) (l.length : Nat) (0 : Int))
    (fun k s => by rw [chaseref2_ItemsFault_L1_eq, cnd_decide, if_neg (by omega), List.length_map])
    (fun k i s hi => by
      have hx := ItemFault_ok fu (n + 1) l[i] hfu
      unfold itemC at hx
      rw [chaseref2_ItemsFault_L1_eq, cnd_decide, if_pos (by omega), rdItem hi, hx, rI_some, cnd_err, cnd_errc _ _ (show (7 : Int) ≠ 0 by decide), errO_errO, i64s (by omega)]) l.length 0 fu ⟨#[]⟩ (by omega) (by omega)
  rw [List.drop_zero, ItemsFault_L2 fu n l (by omega) hfu] at h
  refine h.trans ?_
  rw [out_fnz (itemsL l)]; rfl
end Go.Pv
/- Chapter 1: items that streams make. -/
namespace Go.Pv
open Go Go.Proofs

theorem enc4 (i : Int) : (Utf8.encode i).size ≤ 4 := by
  unfold Utf8.encode
  simp only
  repeat' split
  all_goals simp [ByteArray.size]
/-- Items of streams are not long. -/
structure ItS (x : Item) : Prop where
  id : x.id.size ≤ 10
  cust : x.cust.size ≤ 10
  name : x.name.size ≤ 200
  parent : x.parent.size ≤ 10
  text : x.text.size ≤ 30000
theorem itemId_ok (fu n : Nat) (i : Int) : ∃ s : ByteArray, s.size ≤ 10 ∧ ev fu (n + 1) 81 [.int .i64 i] [] = some ([.str s], []) := by
  rw [chasemake_itemId_eq]
  have h1 := enc4 (IntKind.i32.wrap (IntKind.i64.wrap ((97 : Int) + (Int.tmod (IntKind.i64.wrap (Int.tdiv i (26 : Int))) (26 : Int)))))
  have h2 := enc4 (IntKind.i32.wrap (IntKind.i64.wrap ((97 : Int) + (Int.tmod i (26 : Int)))))
  generalize Utf8.encode (IntKind.i32.wrap (IntKind.i64.wrap ((97 : Int) + (Int.tmod (IntKind.i64.wrap (Int.tdiv i (26 : Int))) (26 : Int))))) = u at *
  generalize Utf8.encode (IntKind.i32.wrap (IntKind.i64.wrap ((97 : Int) + (Int.tmod i (26 : Int))))) = v at *
  have h0 : (⟨#[105]⟩ : ByteArray).size = 1 := rfl
  have h3 : ((⟨#[105]⟩ : ByteArray) ++ u).size = 1 + u.size := by rw [ByteArray.size_append, h0]
  refine ⟨((⟨#[105]⟩ : ByteArray) ++ u) ++ v, by rw [ByteArray.size_append]; omega, ?_⟩
  rw [gd_pos (by decide), gd_pos (by decide), stG_pos (by omega), gd_pos (by decide), stG_pos (by omega)]
def words10 : List ByteArray := [⟨#[100, 101, 97, 108]⟩, ⟨#[68, 101, 97, 108]⟩, ⟨#[115, 105, 103, 110]⟩, ⟨#[115, 105, 103, 110, 101, 100]⟩, ⟨#[116, 104, 101]⟩, ⟨#[102, 114, 105, 100, 97, 121]⟩, ⟨#[99, 111, 110, 116, 114, 97, 99, 116]⟩, ⟨#[120, 49]⟩, ⟨#[99, 97, 102, 195, 169]⟩, ⟨#[97, 110, 100]⟩]
theorem ItemText_L2 (fu n k1 : Nat) (ls : List Int) (N : Nat) (hN : N ≤ 6) (v7 v8 : Int) : ∀ (m i k : Nat) (s : ByteArray) (at_ : Int), i + m = N → m < k → 0 ≤ at_ → at_ + 2 * m < 4000000000000000000 → s.size + 20 * m ≤ 100000 →
    ∃ s' a, s'.size ≤ s.size + 20 * m + 1 ∧ at_ ≤ a ∧ a ≤ at_ + 2 * m ∧ chasemake_Stream_ItemText_L2 fu (n + 3) k1 k s v7 v8 (N : Nat) (i : Nat) (ls.map i1) at_ = chasemake_Stream_ItemText_L1 fu (n + 3) k1 s' v7 (IntKind.i64.wrap (v8 + 1)) (ls.map i1) a
  | m, i, 0, s, at_, hi, hk, h0, h1, hs => by omega
  | 0, i, k + 1, s, at_, hi, hk, h0, h1, hs => by
    refine ⟨s ++ ⟨#[10]⟩, at_, by rw [ByteArray.size_append]; show _ + 1 ≤ _; omega, by omega, by omega, ?_⟩
    rw [chasemake_Stream_ItemText_L2_eq, cnd_decide, if_neg (by omega), stG_pos (by show _ + 1 ≤ _; omega)]
  | m + 1, i, k + 1, s, at_, hi, hk, h0, h1, hs => by
    rw [chasemake_Stream_ItemText_L2_eq, cnd_decide, if_pos (by omega), cnd_decide]
    by_cases hp : (0 : Int) < (i : Int)
    · obtain ⟨x, hx, g1⟩ := some10_ok fu n ls at_ [[.str ⟨#[32]⟩], [.str ⟨#[32]⟩], [.str ⟨#[32]⟩], [.str ⟨#[44, 32]⟩], [.str ⟨#[45]⟩]] [⟨#[32]⟩, ⟨#[32]⟩, ⟨#[32]⟩, ⟨#[44, 32]⟩, ⟨#[45]⟩] rfl (by omega) (by omega) (by simp) (by simp)
      obtain ⟨y, hy, g2⟩ := some10_ok fu n ls (at_ + 1) (strs words10) words10 rfl (by omega) (by omega) (by decide) (by decide)
      have zx : x.size ≤ 10 := sz_mem hx rfl
      have zy : y.size ≤ 10 := sz_mem hy rfl
      have g2' : ev fu (n + 3) 39 [.ptr 0 0, .list ([[.str (⟨#[100, 101, 97, 108]⟩ : ByteArray)], [.str (⟨#[68, 101, 97, 108]⟩ : ByteArray)], [.str (⟨#[115, 105, 103, 110]⟩ : ByteArray)], [.str (⟨#[115, 105, 103, 110, 101, 100]⟩ : ByteArray)], [.str (⟨#[116, 104, 101]⟩ : ByteArray)], [.str (⟨#[102, 114, 105, 100, 97, 121]⟩ : ByteArray)], [.str (⟨#[99, 111, 110, 116, 114, 97, 99, 116]⟩ : ByteArray)], [.str (⟨#[120, 49]⟩ : ByteArray)], [.str (⟨#[99, 97, 102, 195, 169]⟩ : ByteArray)], [.str (⟨#[97, 110, 100]⟩ : ByteArray)]] : List (List MV))] (sb ls (at_ + 1)) = some ([.str y], sb ls (at_ + 1 + 1)) := g2
      obtain ⟨s', a, q1, q2, q3, g⟩ := ItemText_L2 fu n k1 ls N hN v7 v8 m (i + 1) k ((s ++ x) ++ y) (at_ + 1 + 1) (by omega) (by omega) (by omega) (by omega) (by rw [ByteArray.size_append, ByteArray.size_append]; omega)
      refine ⟨s', a, by rw [ByteArray.size_append, ByteArray.size_append] at q1; omega, by omega, by omega, ?_⟩
      rw [if_pos hp, g1, skS_some, stG_pos (by omega), g2', skS_some, stG_pos (by rw [ByteArray.size_append]; omega), i64s (by omega)]
      exact g
    · obtain ⟨y, hy, g2⟩ := some10_ok fu n ls at_ (strs words10) words10 rfl (by omega) (by omega) (by decide) (by decide)
      have zy : y.size ≤ 10 := sz_mem hy rfl
      have g2' : ev fu (n + 3) 39 [.ptr 0 0, .list ([[.str (⟨#[100, 101, 97, 108]⟩ : ByteArray)], [.str (⟨#[68, 101, 97, 108]⟩ : ByteArray)], [.str (⟨#[115, 105, 103, 110]⟩ : ByteArray)], [.str (⟨#[115, 105, 103, 110, 101, 100]⟩ : ByteArray)], [.str (⟨#[116, 104, 101]⟩ : ByteArray)], [.str (⟨#[102, 114, 105, 100, 97, 121]⟩ : ByteArray)], [.str (⟨#[99, 111, 110, 116, 114, 97, 99, 116]⟩ : ByteArray)], [.str (⟨#[120, 49]⟩ : ByteArray)], [.str (⟨#[99, 97, 102, 195, 169]⟩ : ByteArray)], [.str (⟨#[97, 110, 100]⟩ : ByteArray)]] : List (List MV))] (sb ls at_) = some ([.str y], sb ls (at_ + 1)) := g2
      obtain ⟨s', a, q1, q2, q3, g⟩ := ItemText_L2 fu n k1 ls N hN v7 v8 m (i + 1) k (s ++ y) (at_ + 1) (by omega) (by omega) (by omega) (by omega) (by rw [ByteArray.size_append]; omega)
      refine ⟨s', a, by rw [ByteArray.size_append] at q1; omega, by omega, by omega, ?_⟩
      rw [if_neg hp, g2', skS_some, stG_pos (by omega), i64s (by omega)]
      exact g
theorem ItemText_L1 (fu n : Nat) (hfu : 1000000 ≤ fu) (ls : List Int) (N : Nat) (hN : N ≤ 3) : ∀ (m i k : Nat) (s : ByteArray) (at_ : Int), i + m = N → m < k → 0 ≤ at_ → at_ + 13 * m < 3000000000000000000 → s.size ≤ 130 * i →
    ∃ s' a, s'.size ≤ 400 ∧ at_ ≤ a ∧ a ≤ at_ + 13 * m ∧ chasemake_Stream_ItemText_L1 fu (n + 3) k s (N : Nat) (i : Nat) (ls.map i1) at_ = some ([.str s'], sb ls a)
  | m, i, 0, s, at_, hi, hk, h0, h1, hs => by omega
  | 0, i, k + 1, s, at_, hi, hk, h0, h1, hs => by
    rw [chasemake_Stream_ItemText_L1_eq, cnd_decide, if_neg (by omega)]
    exact ⟨s, at_, by omega, by omega, by omega, rfl⟩
  | m + 1, i, k + 1, s, at_, hi, hk, h0, h1, hs => by
    obtain ⟨c, hc, g1⟩ := Range_ok fu n ls at_ 0 6 (by omega) (by omega) (by omega) (by omega) (by omega)
    obtain ⟨C, rfl⟩ : ∃ C : Nat, c = C := ⟨c.toNat, by omega⟩
    obtain ⟨s1, a1, q1, q2, q3, g2⟩ := ItemText_L2 fu n k ls C (by omega) (N : Nat) (i : Nat) C 0 fu s (at_ + 1) (by omega) (by omega) (by omega) (by omega) (by omega)
    obtain ⟨s2, a2, r1, r2, r3, g3⟩ := ItemText_L1 fu n hfu ls N hN m (i + 1) k s1 a1 (by omega) (by omega) (by omega) (by omega) (by omega)
    refine ⟨s2, a2, r1, by omega, by omega, ?_⟩
    rw [i64s (by omega)] at g2
    rw [chasemake_Stream_ItemText_L1_eq, cnd_decide, if_pos (by omega), g1, skI_some]
    exact g2.trans g3
theorem ItemText_ok (fu n : Nat) (hfu : 1000000 ≤ fu) (ls : List Int) (at_ : Int) (h0 : 0 ≤ at_) (h1 : at_ < 2000000000000000000) :
    ∃ s a, s.size ≤ 400 ∧ at_ ≤ a ∧ a ≤ at_ + 50 ∧ ev fu (n + 4) 113 [.ptr 0 0] (sb ls at_) = some ([.str s], sb ls a) := by
  obtain ⟨x, hx, g⟩ := Pick_okL fu n ls at_ [[.int .i64 0], [.int .i64 1], [.int .i64 1], [.int .i64 2], [.int .i64 3]] [0, 1, 1, 2, 3] rfl h0 (by omega) (by simp) (by simp)
  have hx' : 0 ≤ x ∧ x ≤ 3 := by simp at hx; omega
  obtain ⟨N, rfl⟩ : ∃ N : Nat, x = N := ⟨x.toNat, by omega⟩
  obtain ⟨s, a, q1, q2, q3, g2⟩ := ItemText_L1 fu n hfu ls N (by omega) N 0 fu ⟨#[]⟩ (at_ + 1) (by omega) (by omega) (by omega) (by omega) (by decide)
  refine ⟨s, a, q1, by omega, by omega, ?_⟩
  rw [chasemake_Stream_ItemText_eq, g, skI_some]
  exact g2
theorem rep_sz (c : Nat) : (⟨(Go.Lib.repeatL (⟨#[97]⟩ : ByteArray).data.toList c).toArray⟩ : ByteArray).size = c := by
  show (Go.Lib.repeatL [97] c).toArray.size = c
  rw [List.size_toArray, Go.Lib.repeatL_length]; simp
theorem sz_cases {x : ByteArray} {xs : List ByteArray} {b : Nat} (h : x ∈ xs) (hb : ∀ y ∈ xs, y.size ≤ b) : x.size ≤ b := hb x h
theorem Item_ok (fu n : Nat) (hfu : 1000000 ≤ fu) (ls : List Int) (at_ : Int) (id : ByteArray) (hid : id.size ≤ 10) (h0 : 0 ≤ at_) (h1 : at_ < 1000000000000000000) :
    ∃ x a, ItS x ∧ 0 ≤ a ∧ a ≤ at_ + 120 ∧ ev fu (n + 5) 80 [.ptr 0 0, .str id] (sb ls at_) = some ([.agg (itemC x)], sb ls a) := by
  have ebe : ByteArray.empty = (⟨#[]⟩ : ByteArray) := by kernel_rfl
  obtain ⟨x5, q5, g5⟩ := some10_ok fu (n + 1) ls at_ [[.str ⟨#[97, 110, 110]⟩], [.str ⟨#[98, 111, 98]⟩], [.str ⟨#[99, 105, 100]⟩]] [⟨#[97, 110, 110]⟩, ⟨#[98, 111, 98]⟩, ⟨#[99, 105, 100]⟩] rfl (by omega) (by omega) (by simp) (by simp)
  obtain ⟨x10, q10, g10⟩ := Pick_okL fu (n + 1) ls (at_ + 1) [[.int .i64 1], [.int .i64 1], [.int .i64 1], [.int .i64 2], [.int .i64 3], [.int .i64 3], [.int .i64 4]] [1, 1, 1, 2, 3, 3, 4] rfl (by omega) (by omega) (by simp) (by simp)
  obtain ⟨x15, q15, g15⟩ := some10_ok fu (n + 1) ls (at_ + 1 + 1) [[.str ⟨#[]⟩], [.str ⟨#[109, 101, 109, 111]⟩], [.str ⟨#[84, 104, 101, 32, 100, 101, 97, 108]⟩], [.str ⟨#[120, 45, 49, 46, 116, 120, 116]⟩]] [⟨#[]⟩, ⟨#[109, 101, 109, 111]⟩, ⟨#[84, 104, 101, 32, 100, 101, 97, 108]⟩, ⟨#[120, 45, 49, 46, 116, 120, 116]⟩] rfl (by omega) (by omega) (by simp) (by simp)
  obtain ⟨x20, q20, g20⟩ := Pick_okL fu (n + 1) ls (at_ + 1 + 1 + 1) [[.int .i64 0], [.int .i64 10], [.int .i64 100], [.int .i64 1439], [.int .i64 1440], [.int .i64 5000], [.int .i64 20000]] [0, 10, 100, 1439, 1440, 5000, 20000] rfl (by omega) (by omega) (by simp) (by simp)
  obtain ⟨x25, a1, q25, b1, c1, g25⟩ := ItemText_ok fu n hfu ls (at_ + 1 + 1 + 1 + 1) (by omega) (by omega)
  obtain ⟨x30, a2, q30, b2, c2, g30⟩ := ItemText_ok fu n hfu ls a1 (by omega) (by omega)
  obtain ⟨x35, q35, g35⟩ := some10_ok fu (n + 1) ls a2 [[.str ⟨#[]⟩], [.str ⟨#[111, 110, 101, 10]⟩], [.str ⟨#[111, 110, 101, 10, 116, 119, 111, 10]⟩], [.str x25], [.str x30]] [⟨#[]⟩, ⟨#[111, 110, 101, 10]⟩, ⟨#[111, 110, 101, 10, 116, 119, 111, 10]⟩, x25, x30] rfl (by omega) (by omega) (by simp) (by simp)
  obtain ⟨x40, g40⟩ := Flip_ok fu (n + 1) ls (a2 + 1) 60 (by omega) (by omega)
  have z5 : x5.size ≤ 10 := sz_mem q5 rfl
  have z15 : x15.size ≤ 200 := Nat.le_trans (sz_mem q15 rfl) (by decide)
  have z35 : x35.size ≤ 30000 := by
    simp only [List.mem_cons, List.not_mem_nil, or_false] at q35
    rcases q35 with rfl | rfl | rfl | rfl | rfl
    · decide
    · decide
    · decide
    · omega
    · omega
  have ze : (⟨#[]⟩ : ByteArray).size ≤ 10 := by decide
  rw [chasemake_Stream_Item_eq, g5, skS_some, g10, skI_some, g15, skS_some, g20, skI_some, g25, skS_some, g30, skS_some, g35, skS_some, g40, skB_some, ebe]
  cases x40
  · rw [cnd_false]
    exact ⟨⟨id, x5, x10, x15, x20, ⟨#[]⟩, x35⟩, _, ⟨hid, z5, z15, ze, z35⟩, by omega, by omega, rfl⟩
  · obtain ⟨x45, q45, g45⟩ := Next_ok fu (n + 2) ls (a2 + 1 + 1) 6 (by omega) (by omega)
    rw [cnd_true, g45, skI_some, cnd_decide]
    by_cases k0 : x45 = 0
    · obtain ⟨x50, q50, g50⟩ := some10_ok fu (n + 1) ls (a2 + 1 + 1 + 1) [[.str ⟨#[]⟩], [.str ⟨#[65]⟩], [.str id]] [⟨#[]⟩, ⟨#[65]⟩, id] rfl (by omega) (by omega) (by simp) (by simp)
      obtain ⟨x55, q55, g55⟩ := some10_ok fu (n + 1) ls (a2 + 1 + 1 + 1 + 1) [[.str ⟨#[]⟩], [.str ⟨#[65, 110, 110]⟩], [.str ⟨#[97, 110, 110]⟩]] [⟨#[]⟩, ⟨#[65, 110, 110]⟩, ⟨#[97, 110, 110]⟩] rfl (by omega) (by omega) (by simp) (by simp)
      have z50 : x50.size ≤ 10 := by
        simp only [List.mem_cons, List.not_mem_nil, or_false] at q50
        rcases q50 with rfl | rfl | rfl
        · decide
        · decide
        · exact hid
      rw [if_pos k0, g50, skS_some, g55, skS_some]
      exact ⟨⟨x50, x55, x10, x15, x20, ⟨#[]⟩, x35⟩, _, ⟨z50, sz_mem q55 rfl, z15, ze, z35⟩, by omega, by omega, rfl⟩
    rw [if_neg k0, cnd_decide]
    by_cases k1 : x45 = 1
    · obtain ⟨v, a, b3, c3, g⟩ := odd10_ok fu n ls (a2 + 1 + 1 + 1) 1 4 (by omega) (by omega) (by omega) (by omega) (by omega)
      rw [if_pos k1, g, skI_some]
      exact ⟨⟨id, x5, v, x15, x20, ⟨#[]⟩, x35⟩, _, ⟨hid, z5, z15, ze, z35⟩, b3, by omega, rfl⟩
    rw [if_neg k1, cnd_decide]
    by_cases k2 : x45 = 2
    · obtain ⟨x65, q65, g65⟩ := Pick_okL fu (n + 1) ls (a2 + 1 + 1 + 1) [[.int .i64 120], [.int .i64 121]] [120, 121] rfl (by omega) (by omega) (by simp) (by simp)
      obtain ⟨c, rfl, hc⟩ : ∃ c : Nat, x65 = c ∧ c ≤ 121 := ⟨x65.toNat, by simp at q65; omega, by simp at q65; omega⟩
      have g66 := Repeat_ev fu (n + 3) ⟨#[97]⟩ c ⟨by omega, by show 1 * c ≤ _; omega⟩
      have zr := rep_sz c
      generalize (⟨(Go.Lib.repeatL (⟨#[97]⟩ : ByteArray).data.toList c).toArray⟩ : ByteArray) = u at *
      obtain ⟨x71, q71, g71⟩ := some10_ok fu (n + 1) ls (a2 + 1 + 1 + 1 + 1) [[.str ⟨#[32, 97]⟩], [.str ⟨#[97, 32, 32, 98]⟩], [.str ⟨#[97, 10]⟩], [.str ⟨#[255]⟩], [.str u]] [⟨#[32, 97]⟩, ⟨#[97, 32, 32, 98]⟩, ⟨#[97, 10]⟩, ⟨#[255]⟩, u] rfl (by omega) (by omega) (by simp) (by simp)
      have z71 : x71.size ≤ 200 := by
        simp only [List.mem_cons, List.not_mem_nil, or_false] at q71
        rcases q71 with rfl | rfl | rfl | rfl | rfl
        · decide
        · decide
        · decide
        · decide
        · omega
      rw [if_pos k2, g65, skI_some, g66, rS_some, g71, skS_some]
      exact ⟨⟨id, x5, x10, x71, x20, ⟨#[]⟩, x35⟩, _, ⟨hid, z5, z71, ze, z35⟩, by omega, by omega, rfl⟩
    rw [if_neg k2, cnd_decide]
    by_cases k3 : x45 = 3
    · obtain ⟨v, a, b3, c3, g⟩ := odd10_ok fu n ls (a2 + 1 + 1 + 1) 0 5761439 (by omega) (by omega) (by omega) (by omega) (by omega)
      rw [if_pos k3, g, skI_some]
      exact ⟨⟨id, x5, x10, x15, v, ⟨#[]⟩, x35⟩, _, ⟨hid, z5, z15, ze, z35⟩, b3, by omega, rfl⟩
    rw [if_neg k3, cnd_decide]
    by_cases k4 : x45 = 4
    · obtain ⟨x81, q81, g81⟩ := some10_ok fu (n + 1) ls (a2 + 1 + 1 + 1) [[.str ⟨#[65]⟩], [.str id], [.str ⟨#[57]⟩]] [⟨#[65]⟩, id, ⟨#[57]⟩] rfl (by omega) (by omega) (by simp) (by simp)
      have z81 : x81.size ≤ 10 := by
        simp only [List.mem_cons, List.not_mem_nil, or_false] at q81
        rcases q81 with rfl | rfl | rfl
        · decide
        · exact hid
        · decide
      rw [if_pos k4, g81, skS_some]
      exact ⟨⟨id, x5, x10, x15, x20, x81, x35⟩, _, ⟨hid, z5, z15, z81, z35⟩, by omega, by omega, rfl⟩
    rw [if_neg k4]
    obtain ⟨x86, q86, g86⟩ := Pick_okL fu (n + 1) ls (a2 + 1 + 1 + 1) [[.int .i64 19999], [.int .i64 20000]] [19999, 20000] rfl (by omega) (by omega) (by simp) (by simp)
    obtain ⟨c, rfl, hc⟩ : ∃ c : Nat, x86 = c ∧ c ≤ 20000 := ⟨x86.toNat, by simp at q86; omega, by simp at q86; omega⟩
    have g87 := Repeat_ev fu (n + 3) ⟨#[97]⟩ c ⟨by omega, by show 1 * c ≤ _; omega⟩
    have zr := rep_sz c
    generalize (⟨(Go.Lib.repeatL (⟨#[97]⟩ : ByteArray).data.toList c).toArray⟩ : ByteArray) = u at *
    have zu : (u ++ (⟨#[10]⟩ : ByteArray)).size ≤ 20001 := by rw [ByteArray.size_append]; show _ + 1 ≤ _; omega
    obtain ⟨x92, q92, g92⟩ := some10_ok fu (n + 1) ls (a2 + 1 + 1 + 1 + 1) [[.str ⟨#[110, 111, 32, 101, 110, 100]⟩], [.str ⟨#[1, 10]⟩], [.str ⟨#[127, 10]⟩], [.str ⟨#[255, 10]⟩], [.str (u ++ (⟨#[10]⟩ : ByteArray))]] [⟨#[110, 111, 32, 101, 110, 100]⟩, ⟨#[1, 10]⟩, ⟨#[127, 10]⟩, ⟨#[255, 10]⟩, u ++ (⟨#[10]⟩ : ByteArray)] rfl (by omega) (by omega) (by simp) (by simp)
    have z92 : x92.size ≤ 30000 := by
      simp only [List.mem_cons, List.not_mem_nil, or_false] at q92
      rcases q92 with rfl | rfl | rfl | rfl | rfl
      · decide
      · decide
      · decide
      · decide
      · omega
    rw [g86, skI_some, g87, rS_some, stG_pos (by show _ + 1 ≤ _; omega), g92, skS_some]
    exact ⟨⟨id, x5, x10, x15, x20, ⟨#[]⟩, x92⟩, _, ⟨hid, z5, z15, ze, z92⟩, by omega, by omega, rfl⟩
/-! ### Right items -/
theorem ovr_par (x : Item) (p : ByteArray) : ovr (itemC x) 5 [.str p] = itemC { x with parent := p } := rfl
theorem RightItems_L2 (fu n : Nat) (hfu : 1000000 ≤ fu) (ls : List Int) (N : Nat) (hN : N ≤ 1000) : ∀ (m i k : Nat) (l : List Item) (at_ : Int), l.length = N → (∀ x ∈ l, ItS x) → i + m = N → m < k → 0 ≤ at_ → at_ + 2 * m < 4000000000000000000 →
    ∃ (l' : List Item) (a : Int), l'.length = N ∧ (∀ x ∈ l', ItS x) ∧ at_ ≤ a ∧ a ≤ at_ + 2 * m ∧ chasemake_Stream_RightItems_L2 fu (n + 7) k (l.map itemC) (N : Nat) (i : Nat) (ls.map i1) at_ = some ([.ref 1], [some (.box [.list (ls.map i1), .int .i64 a]), some (.row false 7 (l'.map itemC) [])])
  | m, i, 0, l, at_, hl, hs, hi, hk, h0, h1 => by omega
  | 0, i, k + 1, l, at_, hl, hs, hi, hk, h0, h1 => by
    rw [chasemake_Stream_RightItems_L2_eq, cnd_decide, if_neg (by omega)]
    exact ⟨l, at_, hl, hs, by omega, by omega, rfl⟩
  | m + 1, i, k + 1, l, at_, hl, hs, hi, hk, h0, h1 => by
    obtain ⟨b, g1⟩ := Flip_ok fu (n + 4) ls at_ 2 (by omega) (by omega)
    rw [chasemake_Stream_RightItems_L2_eq, cnd_decide, if_pos (by omega), g1, skB_some, i64s (by omega)]
    cases b
    · have hil : i < l.length := by omega
      obtain ⟨k0, hk0, g2⟩ := Next_ok fu (n + 5) ls (at_ + 1) ((l.map itemC).length : Nat) (by omega) (by omega)
      have hk0 := hk0 (by simp; omega) (by simp; omega)
      obtain ⟨q, rfl⟩ : ∃ q : Nat, k0 = q := ⟨k0.toNat, by omega⟩
      have hql : q < l.length := by simp at hk0; omega
      have put : ∀ (x : Item) (l : List Item), ItS x → (∀ x ∈ l, ItS x) → ∀ y ∈ l.set i x, ItS y := fun x l hx hl y hy => by
        rcases List.mem_or_eq_of_mem_set hy with h | h
        · exact hl y h
        · subst h; exact hx
      have hx := hs l[i] (List.getElem_mem hil)
      have hq := hs l[q] (List.getElem_mem hql)
      have r1 : ∀ K : List MV → Out, rdN (l.map itemC) i K = K (itemC l[i]) := fun K => rdN_get (by simp [hil]) K
      have r2 : ∀ K : List MV → Out, rdN (l.map itemC) q K = K (itemC l[q]) := fun K => rdN_get (by simp [hql]) K
      have c1 : ∀ (x : Item) (K : MV → Out), cel (itemC x) 5 K = K (.str x.parent) := fun _ _ => rfl
      have c2 : ∀ (x : Item) (K : MV → Out), cel (itemC x) 0 K = K (.str x.id) := fun _ _ => rfl
      rw [cnd_false, g2, skI_some]
      have x1 : ∀ o : Out, ixG (l.map itemC).length (i : Int) o = o := fun o => ixG_n (by simpa using hil) o
      have x2 : ∀ o : Out, ixG (l.map itemC).length (q : Int) o = o := fun o => ixG_n (by simpa using hql) o
      have e1 : (l.map itemC).set i (ovr (itemC l[i]) 5 [.str l[q].id]) = (l.set i { l[i] with parent := l[q].id }).map itemC := by rw [ovr_par, List.map_set]
      have h1' : ItS { l[i] with parent := l[q].id } := ⟨hx.id, hx.cust, hx.name, hq.id, hx.text⟩
      have hs1 := put _ l h1' hs
      have hl1 : (l.set i { l[i] with parent := l[q].id }).length = N := by rw [List.length_set]; exact hl
      simp only [Int.toNat_natCast, x1, x2, r1, r2, c1, c2, dS_str, e1]
      have hil1 : i < (l.set i { l[i] with parent := l[q].id }).length := by omega
      have hget : (l.set i { l[i] with parent := l[q].id })[i] = { l[i] with parent := l[q].id } := by simp
      generalize ey : ({ l[i] with parent := l[q].id } : Item) = y at *
      generalize el : l.set i y = l1 at *
      have x3 : ∀ o : Out, ixG (l1.map itemC).length (i : Int) o = o := fun o => ixG_n (by simpa using hil1) o
      have r3 : ∀ K : List MV → Out, rdN (l1.map itemC) i K = K (itemC y) := fun K => rdN_get (by rw [List.getElem?_map, List.getElem?_eq_getElem hil1, hget]; rfl) K
      have e2 : (l1.map itemC).set i (ovr (itemC y) 5 [.str l[i].parent]) = (l1.set i { y with parent := l[i].parent }).map itemC := by rw [ovr_par, List.map_set]
      simp only [x3, r3, e2, ItemsFault_ok fu n l1 hfu, rI_some, cnd_decide]
      have h2' : ItS { y with parent := l[i].parent } := ⟨h1'.id, h1'.cust, h1'.name, hx.parent, h1'.text⟩
      have hs2 := put _ l1 h2' hs1
      have hl2 : (l1.set i { y with parent := l[i].parent }).length = N := by rw [List.length_set]; exact hl1
      obtain ⟨l', a, p1, p2, p3, p4, g⟩ := RightItems_L2 fu n hfu ls N hN m (i + 1) k l1 (at_ + 1 + 1) hl1 hs1 (by omega) (by omega) (by omega) (by omega)
      obtain ⟨l'', a', p1', p2', p3', p4', g'⟩ := RightItems_L2 fu n hfu ls N hN m (i + 1) k _ (at_ + 1 + 1) hl2 hs2 (by omega) (by omega) (by omega) (by omega)
      split
      · exact ⟨l'', a', p1', p2', by omega, by omega, g'⟩
      · cases !decide (itemsE l1 = 0)
        · exact ⟨l', a, p1, p2, by omega, by omega, g⟩
        · exact ⟨l'', a', p1', p2', by omega, by omega, g'⟩
    · obtain ⟨l', a, p1, p2, p3, p4, g⟩ := RightItems_L2 fu n hfu ls N hN m (i + 1) k l (at_ + 1) hl hs (by omega) (by omega) (by omega) (by omega)
      rw [cnd_true]
      exact ⟨l', a, p1, p2, by omega, by omega, g⟩
theorem RightItems_L1 (fu n : Nat) (hfu : 1000000 ≤ fu) (ls : List Int) (N : Nat) (hN : N ≤ 1000) : ∀ (m i k : Nat) (l : List Item) (at_ : Int), l.length ≤ i → (∀ x ∈ l, ItS x) → i + m = N → m < k → 0 ≤ at_ → at_ + 2 * N + 120 * m < 900000000000000000 →
    ∃ (l' : List Item) (a : Int), l'.length ≤ N ∧ (∀ x ∈ l', ItS x) ∧ 0 ≤ a ∧ a ≤ at_ + 2 * N + 120 * m ∧ chasemake_Stream_RightItems_L1 fu (n + 7) k (l.map itemC) (N : Nat) (i : Nat) (ls.map i1) at_ = some ([.ref 1], [some (.box [.list (ls.map i1), .int .i64 a]), some (.row false 7 (l'.map itemC) [])])
  | m, i, 0, l, at_, hl, hs, hi, hk, h0, h1 => by omega
  | 0, i, k + 1, l, at_, hl, hs, hi, hk, h0, h1 => by
    obtain ⟨l', a, p1, p2, p3, p4, g⟩ := RightItems_L2 fu n hfu ls l.length (by omega) l.length 0 fu l at_ rfl hs (by omega) (by omega) h0 (by omega)
    rw [chasemake_Stream_RightItems_L1_eq, cnd_decide, if_neg (by omega), List.length_map]
    exact ⟨l', a, by omega, p2, by omega, by omega, g⟩
  | m + 1, i, k + 1, l, at_, hl, hs, hi, hk, h0, h1 => by
    obtain ⟨id, hid, g1⟩ := itemId_ok fu (n + 6) (i : Int)
    obtain ⟨x, a1, hx, b1, c1, g2⟩ := Item_ok fu (n + 2) hfu ls at_ id hid h0 (by omega)
    have hf := ItemFault_ok fu (n + 2) x hfu
    obtain ⟨l', a, p1, p2, p3, p4, g⟩ := RightItems_L1 fu n hfu ls N hN m (i + 1) k l a1 (by omega) hs (by omega) (by omega) b1 (by omega)
    obtain ⟨l'', a', p1', p2', p3', p4', g'⟩ := RightItems_L1 fu n hfu ls N hN m (i + 1) k (l ++ [x]) a1 (by simp; omega) (fun y hy => by
      rcases List.mem_append.1 hy with h | h
      · exact hs y h
      · rcases List.mem_singleton.1 h with rfl; exact hx) (by omega) (by omega) b1 (by omega)
    have e : l.map itemC ++ [[.str x.id, .str x.cust, .int .i64 x.kind, .str x.name, .int .i64 x.at_, .str x.parent, .str x.text]] = (l ++ [x]).map itemC := by rw [List.map_append]; rfl
    have ex : itemC x = [.str x.id, .str x.cust, .int .i64 x.kind, .str x.name, .int .i64 x.at_, .str x.parent, .str x.text] := rfl
    rw [ex] at g2 hf
    rw [chasemake_Stream_RightItems_L1_eq, cnd_decide, if_pos (by omega), g1, rS_some, g2]
    simp only [callE_some', unX_cons, dBx_box, unC_cons, dL_list, dI_int, unN_nil, unXN_nil, dA_agg, dS_str, eqM_self', g1, rS_some, hf, rI_some, i64s (show i < 9223372036854775807 by omega), e]
    rw [gL_pos (by simp; omega)]
    cases hid2 : !decide (x.id = id) with
    | true => rw [cnd_true, eqM_self']; exact ⟨l', a, p1, p2, p3, by omega, g⟩
    | false =>
      rw [cnd_false]
      cases !decide (x.parent = (⟨#[]⟩ : ByteArray)) with
      | true => rw [cnd_true, eqM_self']; exact ⟨l', a, p1, p2, p3, by omega, g⟩
      | false =>
        rw [cnd_false]
        cases !decide (itE x = 0) with
        | true => rw [cnd_true, eqM_self']; exact ⟨l', a, p1, p2, p3, by omega, g⟩
        | false => rw [cnd_false, eqM_self']; exact ⟨l'', a', p1', p2', p3', by omega, g'⟩
theorem RightItems_ok (fu n : Nat) (hfu : 1000000 ≤ fu) (ls : List Int) (at_ : Int) (N : Nat) (hN : N ≤ 1000) (h0 : 0 ≤ at_) (h1 : at_ < 800000000000000000) :
    ∃ (l : List Item) (a : Int), l.length ≤ N ∧ (∀ x ∈ l, ItS x) ∧ 0 ≤ a ∧ a ≤ at_ + 122000 ∧ ev fu (n + 8) 32 [.ptr 0 0, .int .i64 (N : Nat)] (sb ls at_) = some ([.ref 1], [some (.box [.list (ls.map i1), .int .i64 a]), some (.row false 7 (l.map itemC) [])]) := by
  obtain ⟨l, a, p1, p2, p3, p4, g⟩ := RightItems_L1 fu n hfu ls N hN N 0 fu [] at_ (by simp) (by simp) (by omega) (by omega) h0 (by omega)
  refine ⟨l, a, p1, p2, p3, by omega, ?_⟩
  rw [chasemake_Stream_RightItems_eq]
  exact g
end Go.Pv
/- Chapter 6: codings; what streams make of them; their errors, both sides. -/
namespace Go.Pv
open Go Go.Proofs

structure Cod where
  item : ByteArray
  vals : List Choice
def codC (c : Cod) : List MV := [.str c.item, valsM c.vals]
@[simp] theorem codC_len (c : Cod) : (codC c).length = 2 := rfl
theorem rdCod {α : Type} {xs : List Cod} {i : Nat} (h : i < xs.length) (K : ByteArray → List (List MV) → Option α) :
    rd (xs.map codC) (i : Int) (fun e => gd (e.length = 2) (gd (0 + 2 ≤ e.length) (unC (List.take 2 (List.drop 0 e)) fun m2 c3 => (dS m2 fun x4 => (unC c3 fun m5 c6 => (dL m5 fun x7 => (unN c6 (K x4 x7)))))))) = K xs[i].item (xs[i].vals.map choC) := by
  rw [rdm h, gd_pos (codC_len _), gd_pos (by simp)]
  simp [codC, valsM]
theorem Coded_L1 (fu n : Nat) (hfu : 1000000 ≤ fu) (L : Lay) (hL : LayOk L) (ls : List Int) (xs : List Item) (hx : xs.length ≤ 10000) : ∀ (m i k : Nat) (C : List Cod) (at_ : Int), i + m = xs.length → m < k → C.length ≤ i → (∀ c ∈ C, ValOk c.vals) → 0 ≤ at_ → at_ + 50000000000 * (m + 1) < 2000000000000000000 →
    ∃ (C' : List Cod) (a : Int), C'.length ≤ xs.length + 1 ∧ (∀ c ∈ C', ValOk c.vals) ∧ 0 ≤ a ∧ a ≤ at_ + 50000000000 * (m + 1) ∧ chasemake_Stream_Coded_L1 fu (n + 4) k (L.asks.map askC) (L.rules.map ruleC) (C.map codC) (xs.map itemC) (xs.length : Nat) (i : Nat) (ls.map i1) at_ = some ([.ref 1], [some (.box [.list (ls.map i1), .int .i64 a]), some (.row false 2 (C'.map codC) [])])
  | m, i, 0, C, at_, hi, hk, hc, hv, h0, h1 => by omega
  | 0, i, k + 1, C, at_, hi, hk, hc, hv, h0, h1 => by
    obtain ⟨b, g1⟩ := Flip_ok fu (n + 1) ls at_ 10 (by omega) (by omega)
    rw [chasemake_Stream_Coded_L1_eq, cnd_decide, if_neg (by omega), g1, skB_some]
    cases b
    · rw [cnd_false]; exact ⟨C, _, by omega, hv, by omega, by omega, rfl⟩
    · obtain ⟨x, hx, g2⟩ := some10_ok fu (n + 1) ls (at_ + 1) [[.str ⟨#[105, 122, 122]⟩], [.str ⟨#[]⟩], [.str ⟨#[105, 97]⟩], [.str ⟨#[65]⟩]] [⟨#[105, 122, 122]⟩, ⟨#[]⟩, ⟨#[105, 97]⟩, ⟨#[65]⟩] rfl (by omega) (by omega) (by simp) (by simp)
      obtain ⟨v, a, hv2, a0, a1, g3⟩ := Values_ok fu n L hL ls (at_ + 1 + 1) (by omega) (by omega) hfu
      have e : C.map codC ++ [[.str x, .list (v.map choC)]] = (C ++ [(⟨x, v⟩ : Cod)]).map codC := by rw [List.map_append]; rfl
      rw [cnd_true, g2, skS_some, g3]
      simp only [callE_some', unX_cons, dBx_box, unC_cons, dL_list, dI_int, unN_nil, unXN_nil, dRw_row, dRf_ref, e]
      rw [gL_pos (by simp; omega)]
      exact ⟨C ++ [⟨x, v⟩], a, by simp; omega, fun c hc => by
        rcases List.mem_append.1 hc with h | h
        · exact hv c h
        · rcases List.mem_singleton.1 h with rfl; exact hv2, a0, by omega, rfl⟩
  | m + 1, i, k + 1, C, at_, hi, hk, hc, hv, h0, h1 => by
    have hlt : i < xs.length := by omega
    obtain ⟨b, g1⟩ := Flip_ok fu (n + 1) ls at_ 2 (by omega) (by omega)
    rw [chasemake_Stream_Coded_L1_eq, cnd_decide, if_pos (by omega), rdItem hlt, g1, skB_some, i64s (by omega)]
    cases b
    · obtain ⟨C', a, p1, p2, p3, p4, g⟩ := Coded_L1 fu n hfu L hL ls xs hx m (i + 1) k C (at_ + 1) (by omega) (by omega) (by omega) hv (by omega) (by omega)
      rw [cnd_false]; exact ⟨C', a, p1, p2, p3, by omega, g⟩
    · obtain ⟨v, a, hv2, a0, a1, g3⟩ := Values_ok fu n L hL ls (at_ + 1) (by omega) (by omega) hfu
      have e : C.map codC ++ [[.str xs[i].id, .list (v.map choC)]] = (C ++ [(⟨xs[i].id, v⟩ : Cod)]).map codC := by rw [List.map_append]; rfl
      obtain ⟨C', a', p1, p2, p3, p4, g⟩ := Coded_L1 fu n hfu L hL ls xs hx m (i + 1) k (C ++ [⟨xs[i].id, v⟩]) a (by omega) (by omega) (by simp; omega) (fun c hc => by
        rcases List.mem_append.1 hc with h | h
        · exact hv c h
        · rcases List.mem_singleton.1 h with rfl; exact hv2) a0 (by omega)
      rw [cnd_true, eqM_self', g3]
      simp only [callE_some', unX_cons, dBx_box, unC_cons, dL_list, dI_int, unN_nil, unXN_nil, dRw_row, dRf_ref, eqM_self', e]
      rw [gL_pos (by simp; omega)]
      exact ⟨C', a', p1, p2, p3, by omega, g⟩
theorem Coded_ok (fu n : Nat) (hfu : 1000000 ≤ fu) (L : Lay) (hL : LayOk L) (ls : List Int) (xs : List Item) (hx : xs.length ≤ 10000) (at_ : Int) (h0 : 0 ≤ at_) (h1 : at_ < 1000000000000000000) :
    ∃ (C : List Cod) (a : Int), C.length ≤ xs.length + 1 ∧ (∀ c ∈ C, ValOk c.vals) ∧ 0 ≤ a ∧ a ≤ at_ + 50000000000 * (xs.length + 1) ∧ ev fu (n + 5) 31 [.ptr 0 0, layM L, .list (xs.map itemC)] (sb ls at_) = some ([.ref 1], [some (.box [.list (ls.map i1), .int .i64 a]), some (.row false 2 (C.map codC) [])]) := by
  obtain ⟨C, a, p1, p2, p3, p4, g⟩ := Coded_L1 fu n hfu L hL ls xs hx xs.length 0 fu [] at_ (by omega) (by omega) (by simp) (by simp) h0 (by omega)
  refine ⟨C, a, p1, p2, p3, p4, ?_⟩
  rw [chasemake_Stream_Coded_eq, List.length_map]
  exact g
/-! ### Their errors -/
def codE (asks : List Ask) (last : ByteArray) (c : Cod) : Int := fnz [if (!keyS c.item) = true then 5 else 0, if (sless c.item last || decide (c.item = last)) = true then 7 else 0, valE asks c.vals]
def codsL (asks : List Ask) (C : List Cod) : Int := (errL (fun _ last c => codE asks last c) (fun _ _ c => c.item) 0 (⟨#[]⟩ : ByteArray) C).1
def codsE (asks : List Ask) (C : List Cod) : Int := fnz [if decide ((2000 : Int) < (C.length : Int)) = true then 2 else 0, codsL asks C]
theorem CodingsFault_ok (fu n : Nat) (L : Lay) (hL : LayOk L) (C : List Cod) (hC : ∀ c ∈ C, ValOk c.vals) (hl : C.length ≤ 400000) (hfu : 1000000 ≤ fu) : ev fu (n + 6) 35 [layM L, .list (C.map codC)] [] = some ([.int .i64 (codsE L.asks C)], []) := by
  have h := err_loop C (fun k i (s : ByteArray) => chaseref2_CodingsFault_L1 fu (n + 5) k (L.asks.map askC) (L.rules.map ruleC) s (C.map codC) (C.length : Nat) i) (fun _ last c => codE L.asks last c) (fun _ _ c => c.item) (fun _ => some ([.int .i64 0], []))
    (fun k s => by rw [chaseref2_CodingsFault_L1_eq, cnd_decide, if_neg (by omega)])
    (fun k i s hi => by
      have hv := valuesRight_ok fu n L hL C[i].vals (hC _ (List.getElem_mem _)) hfu
      unfold valsM layM at hv
      rw [chaseref2_CodingsFault_L1_eq, cnd_decide, if_pos (by omega), rdCod hi, RKey_ok fu (n + 2), rB_some, hv, rI_some, cnd_err, cnd_errc _ _ (show (7 : Int) ≠ 0 by decide), cnd_errc _ _ (show (5 : Int) ≠ 0 by decide), errO_errO, errO_errO, fnz_a, i64s (by omega)]; rfl) C.length 0 fu ⟨#[]⟩ (by omega) (by omega)
  unfold layM
  rw [List.drop_zero, errO_fin] at h
  rw [chaseref2_CodingsFault_eq, List.length_map, cnd_errc _ _ (show (2 : Int) ≠ 0 by decide)]
  unfold codsE
  rw [out_fnz]
  refine errO_congr fun _ => ?_
  refine h.trans ?_
  rw [out_fnz]; exact (errO_fin _).symm
theorem sless_nil (a : ByteArray) : sless a ⟨#[]⟩ = false := by
  have e : (⟨#[]⟩ : ByteArray).toList = [] := by kernel_rfl
  unfold sless
  rw [e]
  cases a.toList <;> rfl
theorem keyS_ne {s : ByteArray} (h : keyS s = true) : s ≠ ⟨#[]⟩ := by
  intro e
  subst e
  exact absurd h (by decide)
def prevE (C : List Cod) (i : Nat) (c : Cod) : Int := if 0 < i then (match C[i - 1]? with
  | some p => if (sless c.item p.item || decide (c.item = p.item)) = true then 7 else 0
  | none => 0) else 0
def lastI (C : List Cod) (i : Nat) : ByteArray := if 0 < i then (match C[i - 1]? with
  | some p => p.item
  | none => ⟨#[]⟩) else ⟨#[]⟩
theorem cods_same (asks : List Ask) (C : List Cod) : ∀ (m i : Nat), i + m = C.length →
    (errL (σ := Unit) (fun i _ c => fnz [if (!keyS c.item) = true then 5 else 0, prevE C i c, valE asks c.vals]) (fun _ s _ => s) i () (C.drop i)).1 = (errL (fun _ last c => codE asks last c) (fun _ _ c => c.item) i (lastI C i) (C.drop i)).1
  | 0, i, hi => by rw [List.drop_of_length_le (by omega)]; rfl
  | m + 1, i, hi => by
    have hlt : i < C.length := by omega
    have ih := cods_same asks C m (i + 1) (by omega)
    rw [List.drop_eq_getElem_cons hlt, errL, errL]
    have e : fnz [if (!keyS C[i].item) = true then 5 else 0, prevE C i C[i], valE asks C[i].vals] = codE asks (lastI C i) C[i] := by
      unfold codE prevE lastI
      by_cases h0 : 0 < i
      · have hg : C[i - 1]? = some C[i - 1] := List.getElem?_eq_getElem (by omega)
        simp only [if_pos h0, hg]
      · simp only [if_neg h0]
        rw [sless_nil, Bool.false_or]
        cases hk : keyS C[i].item with
        | false => rfl
        | true => rw [decide_eq_false (keyS_ne hk)]; rfl
    have el : lastI C (i + 1) = C[i].item := by
      unfold lastI
      rw [if_pos (by omega)]
      have hg : C[i + 1 - 1]? = some C[i] := by rw [Nat.add_sub_cancel]; exact List.getElem?_eq_getElem hlt
      rw [hg]
    rw [e]
    split
    · rw [ih, el]
    · rfl
theorem codingsError_ok (fu n : Nat) (L : Lay) (hL : LayOk L) (C : List Cod) (hC : ∀ c ∈ C, ValOk c.vals) (hl : C.length ≤ 400000) (hfu : 1000000 ≤ fu) : ev fu (n + 6) 119 [layM L, .list (C.map codC)] [] = some ([.int .i64 (codsE L.asks C)], []) := by
  have h := err_loop C (fun k i (_ : Unit) => review_codingsError_L1 fu (n + 5) k (C.map codC) (L.asks.map askC) (L.rules.map ruleC) (C.map codC) (C.length : Nat) i) (fun i _ c => fnz [if (!keyS c.item) = true then 5 else 0, prevE C i c, valE L.asks c.vals]) (fun _ s _ => s) (fun _ => some ([.int .i64 0], []))
    (fun k s => by rw [review_codingsError_L1_eq, cnd_decide, if_neg (by omega)])
    (fun k i s hi => by
      have hv := valuesError_ok fu n L hL C[i].vals (hC _ (List.getElem_mem _)) hfu
      unfold valsM layM at hv
      rw [review_codingsError_L1_eq, cnd_decide, if_pos (by omega), rdCod hi]
      simp only [eqM_self', Key_ok fu (n + 3) _ hfu, When_ok, rB_some, rI_some, hv, First3_ok fu (n + 4) hfu, cnd_err, i64s (show i < 9223372036854775807 by omega)]
      unfold prevE
      by_cases h0 : 0 < i
      · have hm : mm2 true (i : Int) (1 : Int) = (i : Int) := by unfold mm2; simp; omega
        have hg : C[i - 1]? = some C[i - 1] := List.getElem?_eq_getElem (by omega)
        have hw : IntKind.i64.wrap ((i : Int) - 1) = ((i - 1 : Nat) : Int) := by rw [w64 (by omega) (by omega)]; omega
        have hr : ∀ K : List MV → Out, rd (C.map codC) ((i - 1 : Nat) : Int) K = K (codC C[i - 1]) := fun K => rdn hg K
        have hc : ∀ K : MV → Out, cel (codC C[i - 1]) 0 K = K (.str C[i - 1].item) := fun _ => rfl
        rw [decide_eq_true (show (0 : Int) < (i : Int) by omega), cnd_true]
        simp only [hm, hw, hr, hc, codC_len, gd_true, dS_str, eqM_self', When_ok, rI_some, hv, First3_ok fu (n + 4) hfu, cnd_err, if_pos h0, hg]
      · rw [decide_eq_false (show ¬ (0 : Int) < (i : Int) by omega), cnd_false]
        simp only [if_neg h0]; rfl) C.length 0 fu () (by omega) (by omega)
  unfold layM
  rw [List.drop_zero, errO_fin] at h
  rw [review_codingsError_eq, List.length_map, cnd_errc _ _ (show (2 : Int) ≠ 0 by decide)]
  unfold codsE
  rw [out_fnz]
  refine errO_congr fun _ => ?_
  refine h.trans ?_
  have hs := cods_same L.asks C C.length 0 (by omega)
  rw [List.drop_zero] at hs
  rw [hs, out_fnz]; exact (errO_fin _).symm
def givE (L : Lay) (C : List Cod) : Int := fnz [layE L, codsE L.asks C]
theorem givenError_ok (fu n : Nat) (L : Lay) (hL : LayOk L) (C : List Cod) (hC : ∀ c ∈ C, ValOk c.vals) (hl : C.length ≤ 400000) (hfu : 1000000 ≤ fu) : ev fu (n + 7) 84 [layM L, .list (C.map codC)] [] = some ([.int .i64 (givE L C)], []) := by
  have h1 := CheckLayout_ok fu (n + 1) L hL hfu
  have h2 := codingsError_ok fu n L hL C hC hl hfu
  unfold layM at *
  rw [review_givenError_eq, h1, rI_some, cnd_err, h2, rI_some]
  unfold givE
  rw [out_fnz, out_fnz]
  exact errO_congr fun _ => (errO_fin _).symm
end Go.Pv
/- Chapter 6: which codings have a choice, and how many; both sides. -/
namespace Go.Pv
open Go Go.Proofs

/-! ### Having -/
def hasB (f c : ByteArray) (x : Cod) : Bool := (valL x.vals f).any fun y => decide (c = y)
def havL (f c : ByteArray) (C : List Cod) : List ByteArray := (C.filter (hasB f c)).map (·.item)
theorem filter_loop {α : Type} (p : α → Bool) (g : α → ByteArray) (xs : List α) (hx : xs.length ≤ 400000) (L : Nat → List ByteArray → Int → Out) (fin : List ByteArray → Out)
    (h0 : ∀ k out, L (k + 1) out (xs.length : Nat) = fin out)
    (h1 : ∀ k (i : Nat) (out : List ByteArray) (hi : i < xs.length), out.length ≤ i → L (k + 1) out i = L k (if p xs[i] then out ++ [g xs[i]] else out) ((i + 1 : Nat) : Int)) :
    ∀ (m i k : Nat) (out : List ByteArray), i + m = xs.length → m < k → out.length ≤ i → L k out i = fin (out ++ ((xs.drop i).filter p).map g)
  | m, i, 0, out, hi, hk, ho => by omega
  | 0, i, k + 1, out, hi, hk, ho => by
    have : i = xs.length := by omega
    subst this
    rw [h0, List.drop_length]; simp
  | m + 1, i, k + 1, out, hi, hk, ho => by
    have hlt : i < xs.length := by omega
    rw [h1 k i out hlt ho, List.drop_eq_getElem_cons hlt, List.filter_cons]
    by_cases hp : p xs[i] = true
    · rw [if_pos hp, if_pos hp, filter_loop p g xs hx L fin h0 h1 m (i + 1) k _ (by omega) (by omega) (by simp; omega)]
      simp
    · rw [if_neg hp, if_neg hp, filter_loop p g xs hx L fin h0 h1 m (i + 1) k _ (by omega) (by omega) (by omega)]
theorem havL_len (f c : ByteArray) (C : List Cod) : (havL f c C).length ≤ C.length := by
  unfold havL; rw [List.length_map]; exact List.length_filter_le ..
theorem Having_ok (fu n : Nat) (L : Lay) (hL : LayOk L) (C : List Cod) (hC : ∀ c ∈ C, ValOk c.vals) (hl : C.length ≤ 100000) (f c : ByteArray) (hfu : 1000000 ≤ fu) :
    ev fu (n + 8) 33 [layM L, .list (C.map codC), .str f, .str c] [] = if fnz [givE L C, if (!offB L.asks f c false) = true then 8 else 0] = 0 then some ([.list (strs (havL f c C)), .int .i64 0], []) else some ([.list [], .int .i64 (fnz [givE L C, if (!offB L.asks f c false) = true then 8 else 0])], []) := by
  have h := filter_loop (hasB f c) (·.item) C (by omega) (fun k out i => review_Having_L1 fu (n + 7) k f c (strs out) (C.map codC) (C.length : Nat) i) (fun out => some ([.list (strs out), .int .i64 0], []))
    (fun k out => by rw [review_Having_L1_eq, cnd_decide, if_neg (by omega)])
    (fun k i out hi ho => by
      have hv := value_ok fu (n + 4) C[i].vals (hC _ (List.getElem_mem _)) f hfu
      have hvl := valL_len (hC C[i] (List.getElem_mem _)) f
      have hcs := ContainsS_ok fu (n + 5) (valL C[i].vals f) c (by omega) hfu
      unfold valsM at hv
      have e : strs out ++ [[.str C[i].item]] = strs (out ++ [C[i].item]) := by unfold strs; rw [List.map_append]; rfl
      rw [review_Having_L1_eq, cnd_decide, if_pos (by omega), rdCod hi, hv, rL_some, hcs, rB_some, i64s (by omega), e, gL_pos (by simp; omega)]
      show cnd (hasB f c C[i]) _ _ = _
      cases hasB f c C[i] <;> rfl) C.length 0 fu [] (by omega) (by omega) (by simp)
  have h1 := givenError_ok fu n L hL C hC (by omega) hfu
  have h2 := offers_ok fu (n + 3) L f c false hL hfu
  unfold layM at *
  rw [List.drop_zero, List.nil_append] at h
  rw [review_Having_eq, h1, rI_some, h2, rB_some, When_ok, rI_some, First2_ok fu (n + 6) hfu, rI_some, List.length_map]
  by_cases he : fnz [givE L C, if (!offB L.asks f c false) = true then 8 else 0] = 0
  · rw [decide_eq_true he, Bool.not_true, cnd_false, if_pos he]; exact h
  · rw [decide_eq_false he, Bool.not_false, cnd_true, if_neg he]
theorem HavingOf_ok (fu n : Nat) (L : Lay) (hL : LayOk L) (C : List Cod) (hC : ∀ c ∈ C, ValOk c.vals) (hl : C.length ≤ 100000) (f c : ByteArray) (hfu : 1000000 ≤ fu) :
    ev fu (n + 8) 36 [layM L, .list (C.map codC), .str f, .str c] [] = some ([.list (strs (havL f c C)), .bool (offB L.asks f c false)], []) := by
  have h2 := hasChoice_ok fu (n + 3) L f c hL hfu
  have h := filter_loop (hasB f c) (·.item) C (by omega) (fun k out i => chaseref2_HavingOf_L1 fu (n + 7) k f c (L.asks.map askC) (L.rules.map ruleC) (strs out) (C.map codC) (C.length : Nat) i) (fun out => some ([.list (strs out), .bool (offB L.asks f c false)], []))
    (fun k out => by rw [chaseref2_HavingOf_L1_eq, cnd_decide, if_neg (by omega), h2, rB_some])
    (fun k i out hi ho => by
      have hv := ChoicesIn_ok fu (n + 6) C[i].vals (hC _ (List.getElem_mem _)) f hfu
      have hvl := valL_len (hC C[i] (List.getElem_mem _)) f
      have hcs := ContainsS_ok fu (n + 5) (valL C[i].vals f) c (by omega) hfu
      unfold valsM at hv
      have e : strs out ++ [[.str C[i].item]] = strs (out ++ [C[i].item]) := by unfold strs; rw [List.map_append]; rfl
      rw [chaseref2_HavingOf_L1_eq, cnd_decide, if_pos (by omega), rdCod hi, hv, rL_some, hcs, rB_some, i64s (by omega), e, gL_pos (by simp; omega)]
      show cnd (hasB f c C[i]) _ _ = _
      cases hasB f c C[i] <;> rfl) C.length 0 fu [] (by omega) (by omega) (by simp)
  unfold layM at *
  rw [List.drop_zero, List.nil_append] at h
  rw [chaseref2_HavingOf_eq, List.length_map]
  exact h
/-! ### Rows of counts -/
def rowG (N : Nat) (g : Nat → Int) : List (List MV) := ((List.range N).map g).map i1
theorem rowG_len (N : Nat) (g : Nat → Int) : (rowG N g).length = N := by simp [rowG]
theorem rowG_get {N : Nat} {g : Nat → Int} {j : Nat} (h : j < N) : (rowG N g)[j]? = some (i1 (g j)) := by
  unfold rowG; simp [h]
theorem rowG_set (N : Nat) (g : Nat → Int) (j : Nat) (x : Int) : (rowG N g).set j (ovr (i1 (g j)) 0 [.int .i64 x]) = rowG N (fun q => if q = j then x else g q) := by
  have e : ovr (i1 (g j)) 0 [.int .i64 x] = i1 x := rfl
  unfold rowG
  rw [e, ← List.map_set]
  congr 1
  apply List.ext_getElem?
  intro q
  rw [List.getElem?_set]
  by_cases hq : j = q
  · subst hq
    by_cases hj : j < N
    · simp [hj]
    · simp [hj]
  · rw [if_neg hq]
    simp only [List.getElem?_map]
    by_cases hqN : q < N
    · simp [hqN, Ne.symm hq]
    · simp [hqN]
theorem rowG_congr {N : Nat} {g g' : Nat → Int} (h : ∀ j, j < N → g j = g' j) : rowG N g = rowG N g' := by
  unfold rowG
  congr 1
  exact List.map_congr_left fun j hj => h j (List.mem_range.1 hj)
end Go.Pv
/- Chapter 6: counts of choices; both sides. -/
namespace Go.Pv
open Go Go.Proofs

/-! ### What the errors say -/
theorem fnz0 : ∀ (l : List Int), fnz l = 0 → ∀ x ∈ l, x = 0
  | [], _, x, hx => by cases hx
  | a :: r, h, x, hx => by
    rw [fnz] at h
    split at h
    · rcases List.mem_cons.1 hx with rfl | hx
      · assumption
      · exact fnz0 r h x hx
    · exact absurd h (by assumption)
theorem errL_mem {α σ : Type} (f : Nat → σ → α → Int) (nx : Nat → σ → α → σ) : ∀ (xs : List α) (i : Nat) (s : σ), (errL f nx i s xs).1 = 0 → ∀ x ∈ xs, ∃ j t, f j t x = 0
  | [], _, _, _, x, hx => by cases hx
  | a :: r, i, s, h, x, hx => by
    rw [errL] at h
    split at h
    · rcases List.mem_cons.1 hx with rfl | hx
      · exact ⟨i, s, by assumption⟩
      · exact errL_mem f nx r (i + 1) _ h x hx
    · exact absurd h (by assumption)
theorem errL_at {α : Type} (f : Nat → Unit → α → Int) : ∀ (xs : List α) (i : Nat), (errL f (fun _ s _ => s) i () xs).1 = 0 → ∀ (k : Nat) (x : α), xs[k]? = some x → f (i + k) () x = 0
  | [], _, _, k, x, hx => by simp at hx
  | a :: r, i, h, k, x, hx => by
    rw [errL] at h
    split at h
    · cases k with
      | zero => simp at hx; subst hx; assumption
      | succ k =>
        have := errL_at f r (i + 1) h k x (by simpa using hx)
        rw [show i + (k + 1) = i + 1 + k by omega]; exact this
    · exact absurd h (by assumption)
def Dist (cs : List ByteArray) : Prop := ∀ (k : Nat) (c : ByteArray), cs[k]? = some c → (cs.take k).any (fun x => decide (c = x)) = false
theorem if_zero {b : Bool} {c : Int} (h : (if b = true then c else 0) = 0) (hc : c ≠ 0) : b = false := by
  cases b
  · rfl
  · exact absurd h hc
theorem choE_dist {cs : List ByteArray} (h : choE cs = 0) : Dist cs := by
  intro k c hk
  unfold choE at h
  have h1 := errL_at (fun k _ c => dupE cs k c) cs 0 h k c hk
  rw [Nat.zero_add] at h1
  exact if_zero (fnz0 _ h1 (if ((cs.take k).any fun x => decide (c = x)) = true then 6 else 0) (by simp)) (by decide)
theorem layE_dist {L : Lay} (h : layE L = 0) : ∀ a ∈ L.asks, Dist a.choices := by
  intro a ha
  unfold layE at h
  obtain ⟨j, t, h1⟩ := errL_mem (fun i _ a => askE L.asks i a) (fun _ s _ => s) L.asks 0 () (fnz0 _ h _ (by simp)) a ha
  exact choE_dist (fnz0 _ h1 _ (by simp))
theorem sIx_some (s : ByteArray) (cs : List ByteArray) : sIx s cs = -1 ∨ ∃ k : Nat, sIx s cs = k ∧ cs[k]? = some s := by
  rcases fIx_find (fun x => decide (s = x)) cs 0 with ⟨h, _⟩ | ⟨k, x, h1, h2, h3⟩
  · exact .inl h
  · refine .inr ⟨k, by unfold sIx; rw [h1]; simp, ?_⟩
    have := List.find?_some h3
    have e : s = x := by simpa using this
    rw [e]; exact h2
theorem sIx_at {cs : List ByteArray} (hd : Dist cs) {j : Nat} {s : ByteArray} (h : cs[j]? = some s) : sIx s cs = j := by
  have hany : ∀ {k q : Nat}, k < q → cs[k]? = some s → cs[q]? = some s → False := fun {k q} hkq h1 h2 => by
    have h3 := hd q s h2
    have hm : s ∈ cs.take q := List.mem_of_getElem? (i := k) (by rw [List.getElem?_take, if_pos hkq]; exact h1)
    have : (cs.take q).any (fun x => decide (s = x)) = true := List.any_eq_true.2 ⟨s, hm, by simp⟩
    rw [this] at h3; cases h3
  rcases sIx_some s cs with h1 | ⟨k, h1, h2⟩
  · exfalso
    have h2 := fIx_any (fun x => decide (s = x)) cs 0
    unfold sIx at h1
    rw [h1] at h2
    have : cs.any (fun x => decide (s = x)) = true := List.any_eq_true.2 ⟨s, List.mem_of_getElem? h, by simp⟩
    rw [this] at h2; exact absurd h2 (by decide)
  · rw [h1]
    rcases Nat.lt_trichotomy k j with h | h' | h'
    · exact (hany h h2 ‹_›).elim
    · rw [h']
    · exact (hany h' h h2).elim
/-- Choices in the order of their field. -/
structure Inc (cs v : List ByteArray) : Prop where
  has : ∀ s ∈ v, 0 ≤ sIx s cs
  rise : v.Pairwise fun s t => sIx s cs < sIx t cs
theorem Inc.nil (cs : List ByteArray) : Inc cs [] := ⟨fun s h => (by cases h), .nil⟩
theorem ins_inc (cs : List ByteArray) : ∀ (l : List ByteArray) (i : Nat) (b : Int), (errL (fun _ b c => inE cs b c) (fun _ _ c => sIx c cs) i b l).1 = 0 → (∀ s ∈ l, b < sIx s cs) ∧ Inc cs l
  | [], _, _, _ => ⟨fun s h => (by cases h), .nil cs⟩
  | a :: r, i, b, h => by
    rw [errL] at h
    split at h
    · rename_i h0
      unfold inE at h0
      have h1 := if_zero (fnz0 _ h0 (if decide (sIx a cs < 0) = true then 8 else 0) (by simp)) (by decide)
      have h2 := if_zero (fnz0 _ h0 (if decide (sIx a cs ≤ b) = true then 7 else 0) (by simp)) (by decide)
      have h1 : ¬ sIx a cs < 0 := of_decide_eq_false h1
      have h2 : ¬ sIx a cs ≤ b := of_decide_eq_false h2
      obtain ⟨q1, q2⟩ := ins_inc cs r (i + 1) (sIx a cs) h
      refine ⟨fun s hs => ?_, fun s hs => ?_, ?_⟩
      · rcases List.mem_cons.1 hs with rfl | hs
        · omega
        · have := q1 s hs; omega
      · rcases List.mem_cons.1 hs with rfl | hs
        · omega
        · exact q2.has s hs
      · exact List.pairwise_cons.2 ⟨q1, q2.rise⟩
    · exact absurd h (by assumption)
theorem valE_inc {asks : List Ask} {v : List Choice} (h : valE asks v = 0) (f : ByteArray) : Inc (askAtL asks f) (valL v f) := by
  unfold valL
  cases hf : v.find? (isC f) with
  | none => exact .nil _
  | some c =>
    have hm := List.mem_of_find?_eq_some hf
    have hcf : c.field = f := by have := List.find?_some hf; simpa [isC] using this
    unfold valE at h
    obtain ⟨j, t, h1⟩ := errL_mem (fun _ last c => choiceE asks last c) (fun _ _ c => askIx asks c.field) v 0 (-1) (fnz0 _ h _ (by simp)) c hm
    have h2 : insE (askAtL asks c.field) c.choices = 0 := fnz0 _ h1 _ (by simp)
    rw [hcf] at h2
    exact (ins_inc _ _ _ _ h2).2
theorem codsE_inc {asks : List Ask} {C : List Cod} (h : codsE asks C = 0) (f : ByteArray) : ∀ c ∈ C, Inc (askAtL asks f) (valL c.vals f) := by
  intro c hc
  unfold codsE at h
  have h0 : codsL asks C = 0 := fnz0 _ h _ (by simp)
  unfold codsL at h0
  obtain ⟨j, t, h1⟩ := errL_mem (fun _ last c => codE asks last c) (fun _ _ c => c.item) C 0 _ h0 c hc
  exact valE_inc (fnz0 _ h1 (valE asks c.vals) (by simp)) f
/-! ### Counting -/
def hit (cs v : List ByteArray) (j : Nat) : Bool := if j = cs.length then v.isEmpty else match cs[j]? with
  | some c => v.any fun x => decide (c = x)
  | none => false
def bump (cs v : List ByteArray) (g : Nat → Int) : Nat → Int := fun j => g j + if hit cs v j = true then 1 else 0
theorem hit_ix {cs v : List ByteArray} (hd : Dist cs) (hi : Inc cs v) {j : Nat} (hj : j < cs.length) : (v.any fun s => decide (sIx s cs = (j : Int))) = hit cs v j := by
  have hg : cs[j]? = some cs[j] := List.getElem?_eq_getElem hj
  unfold hit
  rw [if_neg (by omega), hg]
  simp only
  rw [Bool.eq_iff_iff, List.any_eq_true, List.any_eq_true]
  constructor
  · rintro ⟨s, hs, h⟩
    have h := of_decide_eq_true h
    rcases sIx_some s cs with h1 | ⟨k, h1, h2⟩
    · omega
    · have : k = j := by omega
      subst this
      rw [hg] at h2
      exact ⟨s, hs, decide_eq_true (Option.some.inj h2)⟩
  · rintro ⟨s, hs, h⟩
    have h := of_decide_eq_true h
    exact ⟨s, hs, decide_eq_true (by rw [← h]; exact sIx_at hd hg)⟩
theorem flagI_ev (fu n : Nat) (b : Bool) : ev fu (n + 1) 50 [.bool b] [] = some ([.int .i64 (if b = true then 1 else 0)], []) := by
  rw [chaseref2_flag_eq]; cases b <;> rfl
theorem i1_cel (x : Int) (K : Int → Out) : cel (i1 x) 0 (fun m => dI .i64 m K) = K x := by
  show dI .i64 (.int .i64 x) K = _
  rw [dI_int]
theorem zeros (N : Nat) : List.replicate N [.int .i64 (0 : Int)] = rowG N fun _ => 0 := by
  unfold rowG
  rw [List.map_map]
  apply List.ext_getElem?
  intro i
  by_cases h : i < N
  · simp [h, i1]
  · simp [h]
theorem Tally_L2 (fu n k1 : Nat) (f : ByteArray) (cs : List ByteArray) (hcs : cs.length ≤ 400000) (v41 : List (List MV)) (v42 v43 : Int) (v : List ByteArray) (hv : v.length ≤ 400000) (hfu : 1000000 ≤ fu) (hi : Inc cs v) : ∀ (m i k : Nat) (g : Nat → Int) (b : Int), i + m = v.length → m < k → (∀ j, 0 ≤ g j ∧ g j ≤ b) → b + m ≤ 2000000000 →
    review_Tally_L2 fu (n + 1) k1 k f (strs cs) (rowG (cs.length + 1) g) v41 v42 v43 (strs v) (v.length : Nat) (i : Nat) = review_Tally_L1 fu (n + 1) k1 f (strs cs) (rowG (cs.length + 1) fun j => g j + if ((v.drop i).any fun s => decide (sIx s cs = (j : Int))) = true then 1 else 0) v41 v42 (IntKind.i64.wrap (v43 + 1))
  | m, i, 0, g, b, he, hk, hg, hb => by omega
  | 0, i, k + 1, g, b, he, hk, hg, hb => by
    rw [review_Tally_L2_eq, cnd_decide, if_neg (by omega), List.drop_of_length_le (by omega)]
    simp
  | m + 1, i, k + 1, g, b, he, hk, hg, hb => by
    have hlt : i < v.length := by omega
    have h0 := hi.has v[i] (List.getElem_mem _)
    obtain ⟨t, ht, htc⟩ : ∃ t : Nat, sIx v[i] cs = t ∧ t < cs.length := by
      rcases sIx_some v[i] cs with h1 | ⟨k, h1, h2⟩
      · omega
      · exact ⟨k, h1, (List.getElem?_eq_some_iff.1 h2).1⟩
    have hgt := hg t
    have hrd : ∀ K : ByteArray → Out, rd (strs v) (i : Int) (fun e => gd (e.length = 1) (cel e 0 fun m => dS m K)) = K v[i] := fun K => by
      unfold strs
      rw [rdm hlt, gd_pos (sS_len _)]
      simp only [sS, cel_zero, dS_str]
    have ih := Tally_L2 fu n k1 f cs hcs v41 v42 v43 v hv hfu hi m (i + 1) k (fun q => if q = t then g t + 1 else g q) (b + 1) (by omega) (by omega) (fun j => by
      have := hg j
      show 0 ≤ (if j = t then g t + 1 else g j) ∧ (if j = t then g t + 1 else g j) ≤ b + 1
      split <;> omega) (by omega)
    have rg : ∀ K : List MV → Out, rdN (rowG (cs.length + 1) g) t K = K (i1 (g t)) := fun K => rdN_get (rowG_get (by omega)) K
    rw [review_Tally_L2_eq, cnd_decide, if_pos (by omega), hrd, IndexS_ok fu n cs v[i] hcs hfu, rI_some, ht, ixG_pos (by omega) (by rw [rowG_len]; omega), Int.toNat_natCast, rg, i1_cel, ixG_pos (by omega) (by rw [rowG_len]; omega), rg, rowG_set, w64 (by omega) (by omega), i64s (by omega), ih]
    congr 1
    apply rowG_congr
    intro j hj
    rw [List.drop_eq_getElem_cons hlt, List.any_cons, ht]
    by_cases hjt : j = t
    · subst hjt
      have hno : ((v.drop (i + 1)).any fun s => decide (sIx s cs = (j : Int))) = false := by
        rw [Bool.eq_false_iff]
        intro h
        obtain ⟨s, hs, h⟩ := List.any_eq_true.1 h
        have h := of_decide_eq_true h
        have hp := hi.rise
        have hp2 : (v.drop i).Pairwise fun s t => sIx s cs < sIx t cs := hp.sublist (List.drop_sublist _ _)
        rw [List.drop_eq_getElem_cons hlt] at hp2
        have := (List.pairwise_cons.1 hp2).1 s hs
        omega
      rw [hno]; simp
    · have : decide ((t : Int) = (j : Int)) = false := decide_eq_false (by omega)
      rw [this, Bool.false_or, if_neg hjt]
theorem Tally_L1 (fu n : Nat) (f : ByteArray) (cs : List ByteArray) (hd : Dist cs) (hcs : cs.length ≤ 300000) (C : List Cod) (hC : ∀ c ∈ C, ValOk c.vals) (hl : C.length ≤ 100000) (hI : ∀ c ∈ C, Inc cs (valL c.vals f)) (hfu : 1000000 ≤ fu) : ∀ (m i k : Nat) (g : Nat → Int), i + m = C.length → m < k → (∀ j, 0 ≤ g j ∧ g j ≤ (i : Int)) →
    review_Tally_L1 fu (n + 3) k f (strs cs) (rowG (cs.length + 1) g) (C.map codC) (C.length : Nat) (i : Nat) = some ([.list (rowG (cs.length + 1) ((C.drop i).foldl (fun g c => bump cs (valL c.vals f) g) g)), .int .i64 0], [])
  | m, i, 0, g, he, hk, hg => by omega
  | 0, i, k + 1, g, he, hk, hg => by
    rw [review_Tally_L1_eq, cnd_decide, if_neg (by omega), List.drop_of_length_le (by omega)]; rfl
  | m + 1, i, k + 1, g, he, hk, hg => by
    have hlt : i < C.length := by omega
    have hv := value_ok fu n C[i].vals (hC _ (List.getElem_mem _)) f hfu
    have hvl := valL_len (hC C[i] (List.getElem_mem _)) f
    have hin := hI C[i] (List.getElem_mem _)
    unfold valsM at hv
    rw [review_Tally_L1_eq, cnd_decide, if_pos (by omega), rdCod hlt, hv, rL_some, strs_len, strs_len, cnd_decide, List.drop_eq_getElem_cons hlt, List.foldl_cons]
    generalize valL C[i].vals f = v at *
    have ih := Tally_L1 fu n f cs hd hcs C hC hl hI hfu m (i + 1) k (bump cs v g) (by omega) (by omega) (fun j => by
      have := hg j
      unfold bump
      split <;> omega)
    by_cases h0 : (v.length : Int) = 0
    · have hv0 : v = [] := List.eq_nil_of_length_eq_zero (by omega)
      subst hv0
      have hgn := hg cs.length
      have rg : ∀ K : List MV → Out, rdN (rowG (cs.length + 1) g) cs.length K = K (i1 (g cs.length)) := fun K => rdN_get (rowG_get (by omega)) K
      rw [if_pos h0, ixG_pos (by omega) (by rw [rowG_len]; omega), Int.toNat_natCast, rg, i1_cel, ixG_pos (by omega) (by rw [rowG_len]; omega), rg, rowG_set, w64 (by omega) (by omega)]
      have h2 := Tally_L2 fu (n + 2) k f cs (by omega) (C.map codC) (C.length : Nat) (i : Nat) [] (by simp) hfu hin 0 0 fu (fun q => if q = cs.length then g cs.length + 1 else g q) ((i : Int) + 1) rfl (by omega) (fun j => by
        have := hg j
        show 0 ≤ (if j = cs.length then g cs.length + 1 else g j) ∧ (if j = cs.length then g cs.length + 1 else g j) ≤ (i : Int) + 1
        split <;> omega) (by omega)
      refine h2.trans ?_
      rw [i64s (by omega)]
      refine Eq.trans (congrArg (fun r => review_Tally_L1 fu (n + 3) k f (strs cs) r (C.map codC) (C.length : Nat) ((i + 1 : Nat) : Int)) (rowG_congr fun j hj => ?_)) ih
      unfold bump hit
      by_cases hjn : j = cs.length
      · subst hjn; simp
      · have hg' : cs[j]? = some cs[j] := List.getElem?_eq_getElem (by omega)
        simp [hjn, hg']
    · rw [if_neg h0]
      have h2 := Tally_L2 fu (n + 2) k f cs (by omega) (C.map codC) (C.length : Nat) (i : Nat) v (by omega) hfu hin v.length 0 fu g (i : Int) (by omega) (by omega) hg (by omega)
      refine h2.trans ?_
      rw [i64s (by omega), List.drop_zero]
      refine Eq.trans (congrArg (fun r => review_Tally_L1 fu (n + 3) k f (strs cs) r (C.map codC) (C.length : Nat) ((i + 1 : Nat) : Int)) (rowG_congr fun j hj => ?_)) ih
      unfold bump
      by_cases hjn : j = cs.length
      · have hno : (v.any fun s => decide (sIx s cs = (j : Int))) = false := by
          rw [Bool.eq_false_iff]
          intro h
          obtain ⟨s, hs, h⟩ := List.any_eq_true.1 h
          have h := of_decide_eq_true h
          rcases sIx_some s cs with h1 | ⟨k, h1, h2⟩
          · omega
          · have := (List.getElem?_eq_some_iff.1 h2).1
            omega
        have hem : hit cs v j = false := by
          unfold hit
          rw [if_pos hjn]
          cases v with
          | nil => simp at h0
          | cons a r => rfl
        rw [hno, hem]
      · rw [hit_ix hd hin (by omega)]
theorem CountsOf_L2 (fu n k1 : Nat) (f : ByteArray) (cs : List ByteArray) (hcs : cs.length ≤ 400000) (v31 : List (List MV)) (v32 v33 : Int) (v : List ByteArray) (hv : v.length ≤ 400000) (hfu : 1000000 ≤ fu) : ∀ (m i k : Nat) (g : Nat → Int), i + m = cs.length → m < k → (∀ j, i ≤ j → 0 ≤ g j ∧ g j ≤ 1000000) →
    chaseref2_CountsOf_L2 fu (n + 2) k1 k f (strs cs) (rowG (cs.length + 1) g) (strs v) v31 v32 v33 (strs cs) (cs.length : Nat) (i : Nat) = chaseref2_CountsOf_L1 fu (n + 2) k1 f (strs cs) (rowG (cs.length + 1) fun j => if j < i then g j else bump cs v g j) v31 v32 (IntKind.i64.wrap (v33 + 1))
  | m, i, 0, g, he, hk, hg => by omega
  | 0, i, k + 1, g, he, hk, hg => by
    have hin : i = cs.length := by omega
    have hgn := hg cs.length (by omega)
    have rg : ∀ K : List MV → Out, rdN (rowG (cs.length + 1) g) cs.length K = K (i1 (g cs.length)) := fun K => rdN_get (rowG_get (by omega)) K
    have hx : ∀ o : Out, ixG (List.length (rowG (cs.length + 1) g)) (cs.length : Int) o = o := fun o => ixG_pos (by omega) (by rw [rowG_len]; omega) o
    rw [chaseref2_CountsOf_L2_eq, cnd_decide, if_neg (by omega), strs_len, strs_len]
    simp only [Int.toNat_natCast, hx, rg, i1_cel, eqM_self', flagI_ev, rI_some, rowG_set]
    have hw : IntKind.i64.wrap (g cs.length + if decide ((v.length : Int) = 0) = true then 1 else 0) = g cs.length + if decide ((v.length : Int) = 0) = true then 1 else 0 := by
      rw [w64] <;> split <;> omega
    rw [hw]
    congr 1
    apply rowG_congr
    intro j hj
    by_cases hjn : j = cs.length
    · subst hjn
      rw [if_pos rfl, if_neg (show ¬ cs.length < i by omega)]
      unfold bump hit
      rw [if_pos rfl]
      cases v with
      | nil => rfl
      | cons a r => rw [decide_eq_false (by simp; omega)]; rfl
    · rw [if_neg hjn, if_pos (by omega)]
  | m + 1, i, k + 1, g, he, hk, hg => by
    have hlt : i < cs.length := by omega
    have hgi := hg i (Nat.le_refl i)
    have hrd : ∀ K : ByteArray → Out, rd (strs cs) (i : Int) (fun e => gd (e.length = 1) (cel e 0 fun m => dS m K)) = K cs[i] := fun K => by
      unfold strs
      rw [rdm hlt, gd_pos (sS_len _)]
      simp only [sS, cel_zero, dS_str]
    have rg : ∀ K : List MV → Out, rdN (rowG (cs.length + 1) g) i K = K (i1 (g i)) := fun K => rdN_get (rowG_get (by omega)) K
    have hx : ∀ o : Out, ixG (List.length (rowG (cs.length + 1) g)) (i : Int) o = o := fun o => ixG_pos (by omega) (by rw [rowG_len]; omega) o
    have hb : hit cs v i = v.any fun x => decide (cs[i] = x) := by
      have hg' : cs[i]? = some cs[i] := List.getElem?_eq_getElem hlt
      unfold hit
      rw [if_neg (by omega), hg']
    have hw : ∀ b : Bool, IntKind.i64.wrap (g i + if b = true then 1 else 0) = g i + if b = true then 1 else 0 := fun b => by
      rw [w64] <;> split <;> omega
    rw [chaseref2_CountsOf_L2_eq, cnd_decide, if_pos (by omega), hrd]
    simp only [Int.toNat_natCast, hx, rg, i1_cel, eqM_self', ContainsS_ok fu n v cs[i] hv hfu, rB_some, flagI_ev, rI_some, rowG_set, hw, ← hb]
    rw [i64s (by omega)]
    have ih := CountsOf_L2 fu n k1 f cs hcs v31 v32 v33 v hv hfu m (i + 1) k (fun q => if q = i then g i + (if hit cs v i = true then 1 else 0) else g q) (by omega) (by omega) (fun j hj => by
      have := hg j (by omega)
      show 0 ≤ (if j = i then _ else g j) ∧ (if j = i then _ else g j) ≤ 1000000
      rw [if_neg (by omega)]; exact this)
    refine ih.trans (congrArg (fun r => chaseref2_CountsOf_L1 fu (n + 2) k1 f (strs cs) r v31 v32 (IntKind.i64.wrap (v33 + 1))) (rowG_congr fun j hj => ?_))
    by_cases h1 : j < i
    · rw [if_pos h1, if_pos (show j < i + 1 by omega)]
      show (if j = i then _ else g j) = g j
      rw [if_neg (by omega)]
    · rw [if_neg h1]
      by_cases h2 : j = i
      · subst h2
        rw [if_pos (show j < j + 1 by omega)]
        show (if j = j then _ else g j) = _
        rw [if_pos rfl]; rfl
      · rw [if_neg (show ¬ j < i + 1 by omega)]
        unfold bump
        show (if j = i then _ else g j) + _ = _
        rw [if_neg h2]
theorem CountsOf_L1 (fu n : Nat) (f : ByteArray) (cs : List ByteArray) (hcs : cs.length ≤ 300000) (C : List Cod) (hC : ∀ c ∈ C, ValOk c.vals) (hl : C.length ≤ 100000) (hfu : 1000000 ≤ fu) : ∀ (m i k : Nat) (g : Nat → Int), i + m = C.length → m < k → (∀ j, 0 ≤ g j ∧ g j ≤ (i : Int)) →
    chaseref2_CountsOf_L1 fu (n + 3) k f (strs cs) (rowG (cs.length + 1) g) (C.map codC) (C.length : Nat) (i : Nat) = some ([.list (rowG (cs.length + 1) ((C.drop i).foldl (fun g c => bump cs (valL c.vals f) g) g)), .bool true], [])
  | m, i, 0, g, he, hk, hg => by omega
  | 0, i, k + 1, g, he, hk, hg => by
    rw [chaseref2_CountsOf_L1_eq, cnd_decide, if_neg (by omega), List.drop_of_length_le (by omega)]; rfl
  | m + 1, i, k + 1, g, he, hk, hg => by
    have hlt : i < C.length := by omega
    have hv := ChoicesIn_ok fu (n + 2) C[i].vals (hC _ (List.getElem_mem _)) f hfu
    have hvl := valL_len (hC C[i] (List.getElem_mem _)) f
    unfold valsM at hv
    rw [chaseref2_CountsOf_L1_eq, cnd_decide, if_pos (by omega), rdCod hlt, hv, rL_some, strs_len, List.drop_eq_getElem_cons hlt, List.foldl_cons]
    generalize valL C[i].vals f = v at *
    have ih := CountsOf_L1 fu n f cs hcs C hC hl hfu m (i + 1) k (bump cs v g) (by omega) (by omega) (fun j => by
      have := hg j
      unfold bump
      split <;> omega)
    have h2 := CountsOf_L2 fu (n + 1) k f cs (by omega) (C.map codC) (C.length : Nat) (i : Nat) v (by omega) hfu cs.length 0 fu g (by omega) (by omega) (fun j _ => by have := hg j; omega)
    refine h2.trans ?_
    rw [i64s (by omega)]
    refine Eq.trans (congrArg (fun r => chaseref2_CountsOf_L1 fu (n + 3) k f (strs cs) r (C.map codC) (C.length : Nat) ((i + 1 : Nat) : Int)) (rowG_congr fun j hj => ?_)) ih
    rw [if_neg (by omega)]
/-! ### The functions -/
def cnts (L : Lay) (C : List Cod) (f : ByteArray) : List (List MV) := rowG ((askAtL L.asks f).length + 1) (C.foldl (fun g c => bump (askAtL L.asks f) (valL c.vals f) g) fun _ => 0)
theorem askIx_at (L : Lay) (hL : LayOk L) (f : ByteArray) : askIx L.asks f = -1 ∨ ∃ (k : Nat) (a : Ask), askIx L.asks f = k ∧ L.asks[k]? = some a ∧ a ∈ L.asks ∧ askAtL L.asks f = a.choices ∧ a.choices.length ≤ 200000 := by
  rcases fIx_find (isF f) L.asks 0 with ⟨h, _⟩ | ⟨k, a, h1, h2, h3⟩
  · exact .inl h
  · have hm := List.mem_of_getElem? h2
    refine .inr ⟨k, a, by unfold askIx; rw [h1]; simp, h2, hm, ?_, hL.choices a hm⟩
    unfold askAtL; rw [h3]
theorem rdChs {xs : List Ask} {i : Nat} {a : Ask} (h : xs[i]? = some a) (K : List (List MV) → Out) : rd (xs.map askC) (i : Int) (fun e => gd (e.length = 4) (cel e 1 fun m => dL m K)) = K (strs a.choices) := by
  rw [rdn h, gd_pos (askC_len _)]; rfl
theorem Tally_ok (fu n : Nat) (L : Lay) (hL : LayOk L) (C : List Cod) (hC : ∀ c ∈ C, ValOk c.vals) (hl : C.length ≤ 100000) (f : ByteArray) (hfu : 1000000 ≤ fu) :
    ev fu (n + 8) 34 [layM L, .list (C.map codC), .str f] [] = if fnz [givE L C, if decide (askIx L.asks f < 0) = true then 8 else 0] = 0 then some ([.list (cnts L C f), .int .i64 0], []) else some ([.list [], .int .i64 (fnz [givE L C, if decide (askIx L.asks f < 0) = true then 8 else 0])], []) := by
  have h1 := givenError_ok fu n L hL C hC (by omega) hfu
  have h2 := ask_ok fu (n + 4) L f hL hfu
  unfold layM at *
  rw [review_Tally_eq, h2, rI_some, h1, rI_some, When_ok, rI_some, First2_ok fu (n + 6) hfu, rI_some]
  by_cases he : fnz [givE L C, if decide (askIx L.asks f < 0) = true then 8 else 0] = 0
  · rw [decide_eq_true he, Bool.not_true, cnd_false, if_pos he]
    have e1 : givE L C = 0 := fnz0 _ he _ (by simp)
    have e2 := if_zero (fnz0 _ he (if decide (askIx L.asks f < 0) = true then 8 else 0) (by simp)) (by decide)
    have e2 : ¬ askIx L.asks f < 0 := of_decide_eq_false e2
    unfold givE at e1
    have e3 : layE L = 0 := fnz0 _ e1 _ (by simp)
    have e4 : codsE L.asks C = 0 := fnz0 _ e1 _ (by simp)
    rcases askIx_at L hL f with h | ⟨k, a, q1, q2, q3, q4, q5⟩
    · omega
    · have hI := codsE_inc e4 f
      have h := Tally_L1 fu (n + 4) f (askAtL L.asks f) (by rw [q4]; exact layE_dist e3 a q3) (by rw [q4]; omega) C hC hl hI hfu C.length 0 fu (fun _ => 0) (by omega) (by omega) (fun j => ⟨Int.le_refl 0, Int.le_refl 0⟩)
      rw [q1, rdChs q2, strs_len, i64s (by omega), gd_pos (by omega), Int.toNat_natCast, zeros, List.length_map]
      unfold cnts
      rw [q4] at h ⊢
      exact h
  · rw [decide_eq_false he, Bool.not_false, cnd_true, if_neg he]
theorem CountsOf_ok (fu n : Nat) (L : Lay) (hL : LayOk L) (C : List Cod) (hC : ∀ c ∈ C, ValOk c.vals) (hl : C.length ≤ 100000) (f : ByteArray) (hfu : 1000000 ≤ fu) :
    ev fu (n + 8) 37 [layM L, .list (C.map codC), .str f] [] = if askIx L.asks f < 0 then some ([.list [], .bool false], []) else some ([.list (cnts L C f), .bool true], []) := by
  have h2 := askAt_ok fu (n + 4) L f hL hfu
  unfold layM at *
  rw [chaseref2_CountsOf_eq, h2, rI_some, cnd_decide]
  by_cases he : askIx L.asks f < 0
  · rw [if_pos he, if_pos he]
  · rw [if_neg he, if_neg he]
    rcases askIx_at L hL f with h | ⟨k, a, q1, q2, q3, q4, q5⟩
    · omega
    · have h := CountsOf_L1 fu (n + 4) f (askAtL L.asks f) (by rw [q4]; omega) C hC hl hfu C.length 0 fu (fun _ => 0) (by omega) (by omega) (fun j => ⟨Int.le_refl 0, Int.le_refl 0⟩)
      rw [q1, rdChs q2, strs_len, i64s (by omega), gd_pos (by omega), Int.toNat_natCast, zeros, List.length_map]
      unfold cnts
      rw [q4] at h ⊢
      exact h
end Go.Pv
/- The law CodingCounts. -/
namespace Go.Pv
open Go Go.Proofs

theorem rdStk {xs : List ByteArray} {x : Int} (h0 : 0 ≤ x) (h1 : x.toNat < xs.length) : ∃ s, ∀ K : ByteArray → Out, rd (strs xs) x (fun e => gd (e.length = 1) (cel e 0 fun m => dS m K)) = K s := by
  obtain ⟨y, rfl⟩ : ∃ y : Nat, x = y := ⟨x.toNat, by omega⟩
  simp only [Int.toNat_natCast] at h1
  refine ⟨xs[y], fun K => ?_⟩
  unfold strs
  rw [rdm h1, gd_pos (sS_len _)]
  simp only [sS, cel_zero, dS_str]
theorem CodingCounts_J1 (fu n : Nat) (L : Lay) (hL : LayOk L) (C : List Cod) (hC : ∀ c ∈ C, ValOk c.vals) (hl : C.length ≤ 1000) (f c : ByteArray) (hfu : 1000000 ≤ fu) :
    chaselaw2_CodingCounts_J1 fu (n + 29) (C.map codC) f c (L.asks.map askC) (L.rules.map ruleC) = some ([.bool true], []) := by
  have g1 := Having_ok fu (n + 21) L hL C hC (by omega) f c hfu
  have g2 := Tally_ok fu (n + 21) L hL C hC (by omega) f hfu
  have g3 := LayoutFault_ok fu (n + 24) L hL hfu
  have g4 := CodingsFault_ok fu (n + 23) L hL C hC (by omega) hfu
  have g5 := HavingOf_ok fu (n + 21) L hL C hC (by omega) f c hfu
  have g6 := CountsOf_ok fu (n + 21) L hL C hC (by omega) f hfu
  have g7 := decides_ok fu (n + 9) hfu
  have g8 := EqualS_same fu (n + 28) (havL f c C) (by have := havL_len f c C; omega) hfu
  have hn : (askAtL L.asks f).length ≤ 200000 := by
    unfold askAtL
    cases hf : L.asks.find? (isF f) with
    | none => simp
    | some a => exact hL.choices a (List.mem_of_find?_eq_some hf)
  have g9 : ev fu (n + 29) 38 [.list (cnts L C f), .list (cnts L C f)] [] = some ([.bool true], []) := EqualI_ok fu (n + 28) _ [] (by simp; omega) hfu
  have g10 : ev fu (n + 29) 38 [.list [], .list []] [] = some ([.bool true], []) := EqualI_ok fu (n + 28) [] [] (by simp) hfu
  unfold layM at *
  -- the fault, both ways
  have flt : ∀ (a : List (List MV)) (x : Int) (b : List (List MV)) (y : Int), chaselaw2_CodingCounts_J2 fu (n + 29) (C.map codC) f c a x b y (givE L C) (L.asks.map askC) (L.rules.map ruleC) = some ([.bool true], []) →
      cnd (decide (layE L = 0)) (chaselaw2_CodingCounts_J2 fu (n + 29) (C.map codC) f c a x b y (codsE L.asks C) (L.asks.map askC) (L.rules.map ruleC)) (chaselaw2_CodingCounts_J2 fu (n + 29) (C.map codC) f c a x b y (layE L) (L.asks.map askC) (L.rules.map ruleC)) = some ([.bool true], []) := by
    intro a x b y h
    unfold givE at h
    by_cases h0 : layE L = 0
    · have e : fnz [layE L, codsE L.asks C] = codsE L.asks C := by
        simp only [fnz, h0, if_true]
        split
        · rename_i h1; exact h1.symm
        · rfl
      rw [e] at h
      rw [decide_eq_true h0, cnd_true]; exact h
    · have e : fnz [layE L, codsE L.asks C] = layE L := by simp only [fnz, if_neg h0]
      rw [e] at h
      rw [decide_eq_false h0, cnd_false]; exact h
  rw [chaselaw2_CodingCounts_J1_eq, g1, g2]
  by_cases hF : givE L C = 0
  · rw [hF] at flt ⊢
    have e1 : ∀ b : Bool, fnz [0, if b = true then 8 else 0] = if b = true then 8 else 0 := fun b => by cases b <;> rfl
    rw [e1, e1]
    by_cases hk : askIx L.asks f < 0
    · rw [if_pos hk] at g6
      have hk' : decide (askIx L.asks f < 0) = true := decide_eq_true hk
      rw [hk']
      cases ho : offB L.asks f c false with
      | true =>
        rw [ho] at g5
        simp only [Bool.not_true, Bool.false_eq_true, if_false, if_true, show ¬ (8 : Int) = 0 by decide, callE_some', unXN_nil, unC_cons, dL_list, dI_int, unN_nil, g3, g4, rI_some]
        apply flt
        rw [chaselaw2_CodingCounts_J2_eq]
        simp only [g5, g6, g8, g10, g7, callE_some', unXN_nil, unC_cons, dL_list, dI_int, dB_bool, unN_nil, rB_some, decide_true, Bool.not_true, cnd_false, cnd_true, beq_self_eq_true, show decide ((8 : Int) = 0) = false from rfl, Bool.not_false]
      | false =>
        rw [ho] at g5
        simp only [Bool.not_false, if_false, if_true, show ¬ (8 : Int) = 0 by decide, callE_some', unXN_nil, unC_cons, dL_list, dI_int, unN_nil, g3, g4, rI_some]
        apply flt
        rw [chaselaw2_CodingCounts_J2_eq]
        simp only [g5, g6, g8, g10, g7, callE_some', unXN_nil, unC_cons, dL_list, dI_int, dB_bool, unN_nil, rB_some, decide_true, Bool.not_true, cnd_false, cnd_true, beq_self_eq_true, show decide ((8 : Int) = 0) = false from rfl, Bool.not_false, List.length_nil, show decide ((0 : Int) < ((0 : Nat) : Int)) = false from rfl]
    · rw [if_neg hk] at g6
      have hk' : decide (askIx L.asks f < 0) = false := decide_eq_false hk
      rw [hk']
      cases ho : offB L.asks f c false with
      | true =>
        rw [ho] at g5
        simp only [Bool.not_true, Bool.false_eq_true, if_false, if_true, callE_some', unXN_nil, unC_cons, dL_list, dI_int, unN_nil, g3, g4, rI_some]
        apply flt
        rw [chaselaw2_CodingCounts_J2_eq]
        simp only [g5, g6, g8, g9, g7, callE_some', unXN_nil, unC_cons, dL_list, dI_int, dB_bool, unN_nil, rB_some, decide_true, Bool.not_true, cnd_false, cnd_true, beq_self_eq_true, Bool.not_false]
      | false =>
        rw [ho] at g5
        simp only [Bool.not_false, Bool.false_eq_true, if_false, if_true, show ¬ (8 : Int) = 0 by decide, callE_some', unXN_nil, unC_cons, dL_list, dI_int, unN_nil, g3, g4, rI_some]
        apply flt
        rw [chaselaw2_CodingCounts_J2_eq]
        simp only [g5, g6, g8, g9, g7, callE_some', unXN_nil, unC_cons, dL_list, dI_int, dB_bool, unN_nil, rB_some, decide_true, Bool.not_true, cnd_false, cnd_true, beq_self_eq_true, show decide ((8 : Int) = 0) = false from rfl, Bool.not_false, List.length_nil, show decide ((0 : Int) < ((0 : Nat) : Int)) = false from rfl]
  · have e1 : ∀ x : Int, fnz [givE L C, x] = givE L C := fun x => by simp only [fnz, if_neg hF]
    rw [e1, e1, if_neg hF, if_neg hF]
    simp only [callE_some', unXN_nil, unC_cons, dL_list, dI_int, unN_nil, g3, g4, rI_some]
    apply flt
    rw [chaselaw2_CodingCounts_J2_eq, decide_eq_false hF]
    have hw : IntKind.i64.wrap (((List.length ([] : List (List MV)) : Nat) : Int) + ((List.length ([] : List (List MV)) : Nat) : Int)) = 0 := by decide
    simp only [Bool.not_false, cnd_true, decide_true, hw, g7, rB_some]
/-- What a function of streams hands out as a row of its own. -/
theorem skR_eq (sz : Nat) (l es : List (List MV)) (a : Int) (K : List (List MV) → Int → List (List MV) → Out) :
    (callE (some ([.ref 1], [some (.box [.list l, .int .i64 a]), some (.row false sz es [])])) fun r1 B2 => (unX B2 fun o3 B4 => (dBx o3 fun c5 => (unC c5 fun m6 c7 => (dL m6 fun x8 => (unC c7 fun m9 c10 => (dI .i64 m9 fun x11 => (unN c10 (unX B4 fun o12 B13 => (dRw false sz o12 fun x14 => (unXN B13 (unC r1 fun m15 r16 => (dRf 1 m15 (unN r16 (K x8 x11 x14))))))))))))))) = K l a es := by
  rw [callE_some', unX_cons, dBx_box, unC_cons, dL_list, unC_cons, dI_int, unN_nil, unX_cons, dRw_row, unXN_nil, unC_cons, dRf_ref, unN_nil]
theorem CodingCounts_ok (fu n : Nat) (ls : List Int) (hfu : 1000000 ≤ fu) : ev fu (n + 30) 5 [.list (ls.map i1)] [] = some ([.bool true], []) := by
  obtain ⟨L, a, r, hS, a0, a1, hr, g1⟩ := Layout_ok fu (n + 24) ls 0 (by omega) (by omega) hfu
  have hL := hS.ok
  obtain ⟨x25, hx25, g2⟩ := Range_ok fu (n + 26) ls a 0 8 a0 (by omega) (by omega) (by omega) (by omega)
  obtain ⟨N, rfl⟩ : ∃ N : Nat, x25 = N := ⟨x25.toNat, by omega⟩
  obtain ⟨xs, b, hxl, hxs, b0, b1, g3⟩ := RightItems_ok fu (n + 21) hfu ls (a + 1) N (by omega) (by omega) (by omega)
  obtain ⟨C, c, hCl, hC, c0, c1, g4⟩ := Coded_ok fu (n + 24) hfu L hL ls xs (by omega) b b0 (by omega)
  obtain ⟨x62, hx62, g5⟩ := Next_ok fu (n + 27) ls c 4 c0 (by omega)
  obtain ⟨x70, hx70, g6⟩ := Next_ok fu (n + 27) ls (c + 1) 5 (by omega) (by omega)
  have hx62 := hx62 (by omega) (by omega)
  have hx70 := hx70 (by omega) (by omega)
  obtain ⟨s1, r1⟩ := rdStk (xs := [⟨#[114, 101, 115, 112]⟩, ⟨#[119, 104, 121]⟩, ⟨#[104, 111, 116]⟩, ⟨#[110, 111, 110, 101]⟩]) (x := x62) (by omega) (by show x62.toNat < 4; omega)
  obtain ⟨s2, r2⟩ := rdStk (xs := [⟨#[121, 101, 115]⟩, ⟨#[100, 101, 97, 108]⟩, ⟨#[104, 114]⟩, ⟨#[104, 111, 116]⟩, ⟨#[122, 122]⟩]) (x := x70) (by omega) (by show x70.toNat < 5; omega)
  have r1 : ∀ K : ByteArray → Out, rd ([[.str (⟨#[114, 101, 115, 112]⟩ : ByteArray)], [.str (⟨#[119, 104, 121]⟩ : ByteArray)], [.str (⟨#[104, 111, 116]⟩ : ByteArray)], [.str (⟨#[110, 111, 110, 101]⟩ : ByteArray)]] : List (List MV)) x62 (fun e => gd (e.length = 1) (cel e 0 fun m => dS m K)) = K s1 := r1
  have r2 : ∀ K : ByteArray → Out, rd ([[.str (⟨#[121, 101, 115]⟩ : ByteArray)], [.str (⟨#[100, 101, 97, 108]⟩ : ByteArray)], [.str (⟨#[104, 114]⟩ : ByteArray)], [.str (⟨#[104, 111, 116]⟩ : ByteArray)], [.str (⟨#[122, 122]⟩ : ByteArray)]] : List (List MV)) x70 (fun e => gd (e.length = 1) (cel e 0 fun m => dS m K)) = K s2 := r2
  have hJ := CodingCounts_J1 fu n L hL C hC (by omega) s1 s2 hfu
  unfold layM at *
  rw [chaselaw2_CodingCounts_eq, g1]
  simp only [callE_some', unX_cons, dBx_box, unC_cons, dL_list, dI_int, unN_nil, unXN_nil, dA_agg, hr, eqM_self', g2, skI_some]
  rw [g3, skR_eq, g4, skR_eq, g5, skI_some]
  simp only [g6, skI_some, r1, r2, hJ, eqO_self]
theorem CodingCounts_spec (ls : List Int) : SpecB Tryz.prog 5 [ints ls] [] [.bool true] [] := law_spec (CodingCounts_ok 1000000 0 ls (Nat.le_refl _))
end Go.Pv
