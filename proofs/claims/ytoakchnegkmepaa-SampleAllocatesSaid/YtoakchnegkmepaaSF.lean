/- Rows of ints: Clone, Equal, Max, Index, the stable sort of few. -/
import Derived.Test.YtoakchnegkmepaaS7
set_option linter.unusedSimpArgs false
set_option linter.unusedVariables false
set_option maxRecDepth 100000
namespace Go.Pv
open Go Go.Proofs

theorem wid_i1 : ∀ xs : List Int, wid 1 (xs.map i1) = true
  | [] => rfl
  | x :: r => by simp [wid, i1, wid_i1 r]
theorem rdN_i1 {α : Type} {xs : List Int} {i : Nat} {x : Int} (h : xs[i]? = some x) (K : List MV → Option α) : rdN (xs.map i1) i K = K (i1 x) := rdN_get (by simp [h]) K
theorem ovr_i1 (x d : Int) : ovr (i1 x) 0 [.int .i64 d] = i1 d := rfl
theorem set_i1 (o r : List Int) (x d : Int) : ((o ++ x :: r).map i1).set o.length (i1 d) = (o ++ d :: r).map i1 := by
  simp [List.map_append, List.set_append]
theorem i64k {i : Nat} (h : i < 9223372036854775807) : IntKind.i64.wrap ((i : Int) + 1) = ((i + 1 : Nat) : Int) := i64s h

theorem Clone_ok (fu n : Nat) (xs : List Int) (h : xs.length ≤ 100000) : ev fu (n + 1) 103 [.list (xs.map i1)] [] = some ([.ref 0], [some (.row false 1 (xs.map i1) [])]) := by
  rw [slices_Clone_Sint_int_eq]
  refine nilB_eq ?_ (fun e => ?_)
  · rw [wid_i1, sB_true, gL_pos (by simp; omega)]; rfl
  · rw [e]

theorem Equal_L1 (fu n : Nat) (xs : List Int) (hl : xs.length ≤ 100000) : ∀ (m i k1 : Nat), i + m = xs.length → m < k1 → slices_Equal_Sint_int_L1 fu n k1 (xs.map i1) (xs.map i1) (xs.length : Nat) i = some ([.bool true], [])
  | m, i, 0, h, hk => by omega
  | 0, i, k1 + 1, h, hk => by rw [slices_Equal_Sint_int_L1_eq, cnd_decide, if_neg (by omega)]
  | m + 1, i, k1 + 1, h, hk => by
    have hx : xs[i]? = some xs[i] := List.getElem?_eq_getElem (by omega)
    rw [slices_Equal_Sint_int_L1_eq, cnd_decide, if_pos (by omega)]
    simp only [rd_i1 hx, gd_pos (i1_len _), i1, cel_zero, dI_int, eqM_self', cnd_not, cnd_decide, if_true]
    rw [i64k (by omega)]
    exact Equal_L1 fu n xs hl m (i + 1) k1 (by omega) (by omega)
theorem Equal_ok (fu n : Nat) (xs : List Int) (hl : xs.length ≤ 100000) (hfu : 1000000 ≤ fu) : ev fu (n + 1) 55 [.list (xs.map i1), .list (xs.map i1)] [] = some ([.bool true], []) := by
  rw [slices_Equal_Sint_int_eq, cnd_not, cnd_decide, if_pos rfl, List.length_map]
  exact Equal_L1 fu n xs hl xs.length 0 fu (by omega) (by omega)

/-! ### The greatest, and where it stands first -/
def maxI (v : Int) (l : List Int) : Int := l.foldl (fun a b => mm2 true a b) v
theorem Max_L1 (fu n : Nat) (xs : List Int) (hl : xs.length ≤ 100000) : ∀ (m i k1 : Nat) (v : Int), i + m = xs.length → m < k1 → slices_Max_Sint_int_L1 fu n k1 (xs.map i1) v i = some ([.int .i64 (maxI v (xs.drop i))], [])
  | m, i, 0, v, h, hk => by omega
  | 0, i, k1 + 1, v, h, hk => by
    rw [slices_Max_Sint_int_L1_eq, cnd_decide, List.length_map, if_neg (by omega), List.drop_of_length_le (by omega)]; rfl
  | m + 1, i, k1 + 1, v, h, hk => by
    have hx : xs[i]? = some xs[i] := List.getElem?_eq_getElem (by omega)
    rw [slices_Max_Sint_int_L1_eq, cnd_decide, List.length_map, if_pos (by omega)]
    simp only [rd_i1 hx, gd_pos (i1_len _), i1, cel_zero, dI_int]
    rw [i64k (by omega), List.drop_eq_getElem_cons (by omega)]
    exact Max_L1 fu n xs hl m (i + 1) k1 _ (by omega) (by omega)
theorem Max_ok (fu n : Nat) (x : Int) (xs : List Int) (hl : xs.length < 100000) (hfu : 1000000 ≤ fu) : ev fu (n + 1) 105 [.list ((x :: xs).map i1)] [] = some ([.int .i64 (maxI x xs)], []) := by
  have h0 : (x :: xs)[0]? = some x := rfl
  have e := rd_i1 (α := Res × Bxs) h0
  rw [show ((0 : Nat) : Int) = 0 from rfl] at e
  rw [slices_Max_Sint_int_eq, cnd_decide, List.length_map, if_neg (by simp; omega), e, gd_pos (i1_len _)]
  simp only [i1, cel_zero, dI_int]
  exact Max_L1 fu n (x :: xs) (by simp; omega) xs.length 1 fu x (by simp; omega) (by omega)

/-- The first place of a value from i on. -/
def fstI (v : Int) : List Int → Nat → Int
  | [], _ => -1
  | x :: r, i => if v = x then (i : Int) else fstI v r (i + 1)
theorem Index_L1 (fu n : Nat) (xs : List Int) (v : Int) (hl : xs.length ≤ 100000) : ∀ (m i k1 : Nat), i + m = xs.length → m < k1 → slices_Index_Sint_int_L1 fu n k1 (xs.map i1) v (xs.length : Nat) i = some ([.int .i64 (fstI v (xs.drop i) i)], [])
  | m, i, 0, h, hk => by omega
  | 0, i, k1 + 1, h, hk => by
    rw [slices_Index_Sint_int_L1_eq, cnd_decide, if_neg (by omega), List.drop_of_length_le (by omega)]; rfl
  | m + 1, i, k1 + 1, h, hk => by
    have hx : xs[i]? = some xs[i] := List.getElem?_eq_getElem (by omega)
    rw [slices_Index_Sint_int_L1_eq, cnd_decide, if_pos (by omega)]
    simp only [rd_i1 hx, gd_pos (i1_len _), i1, cel_zero, dI_int, cnd_decide]
    rw [i64k (by omega), List.drop_eq_getElem_cons (by omega), fstI]
    split
    · rfl
    · exact Index_L1 fu n xs v hl m (i + 1) k1 (by omega) (by omega)
theorem Index_ok (fu n : Nat) (xs : List Int) (v : Int) (hl : xs.length ≤ 100000) (hfu : 1000000 ≤ fu) : ev fu (n + 1) 104 [.list (xs.map i1), .int .i64 v] [] = some ([.int .i64 (fstI v xs 0)], []) := by
  rw [slices_Index_Sint_int_eq, List.length_map]
  exact Index_L1 fu n xs v hl xs.length 0 fu (by omega) (by omega)

/-! ### The stable sort of at most 20 -/
/-- Into a row that is told from its end. -/
def insR (f : Int → Int → Int) : List Int → Int → List Int
  | [], x => [x]
  | y :: r, x => if f x y < 0 then y :: insR f r x else x :: y :: r
def srt (f : Int → Int → Int) (l : List Int) (r : List Int) : List Int := l.foldl (insR f) r
theorem insR_len (f : Int → Int → Int) : ∀ (r : List Int) (x : Int), (insR f r x).length = r.length + 1
  | [], x => rfl
  | y :: r, x => by unfold insR; split <;> simp [insR_len f r x]
theorem insR_mem {f : Int → Int → Int} : ∀ {r : List Int} {x z : Int}, z ∈ insR f r x ↔ z = x ∨ z ∈ r
  | [], x, z => by simp [insR]
  | y :: r, x, z => by
    unfold insR
    split
    · simp only [List.mem_cons, insR_mem (r := r)]
      constructor
      · rintro (h | h | h)
        · exact .inr (.inl h)
        · exact .inl h
        · exact .inr (.inr h)
      · rintro (h | h | h)
        · exact .inr (.inl h)
        · exact .inl h
        · exact .inr (.inr h)
    · simp

/-- What the comparison says. -/
def CmpOk (fu n : Nat) (g : FuncId) (c : List MV) (f : Int → Int → Int) (A : Int → Prop) : Prop := npL c = true ∧ ∀ a b, A a → A b → ev fu n g ([.int .i64 a, .int .i64 b] ++ c) [] = some ([.int .i64 (f a b)], [])

theorem ins_L2 (fu n k1 : Nat) (g : FuncId) (c : List MV) (f : Int → Int → Int) (A : Int → Prop) (hf : CmpOk fu n g c f A) (v2 v8 : Int) : ∀ (r : List Int) (x : Int) (t : List Int) (k2 : Nat), (∀ y ∈ r, A y) → A x → r.length < k2 → (r.length + t.length < 100000) →
    slices_insertionSortCmpFunc_int_L2 fu n k1 k2 ((r.reverse ++ x :: t).map i1) 0 v2 g c v8 (r.length : Nat) = slices_insertionSortCmpFunc_int_L1 fu n k1 (((insR f r x).reverse ++ t).map i1) 0 v2 g c (IntKind.i64.wrap (v8 + 1))
  | r, x, t, 0, hr, hx, hk, hl => by omega
  | [], x, t, k2 + 1, hr, hx, hk, hl => by
    rw [slices_insertionSortCmpFunc_int_L2_eq, cnd_decide, if_neg (by simp), slices_insertionSortCmpFunc_int_J1_eq, cnd_false]; rfl
  | y :: r, x, t, k2 + 1, hr, hx, hk, hl => by
    simp only [List.length_cons] at hk hl
    have hy : A y := hr y (by simp)
    have g1 : ((y :: r).reverse ++ x :: t)[r.length + 1]? = some x := by
      rw [List.getElem?_append_right (by simp)]; simp
    have g0 : ((y :: r).reverse ++ x :: t)[r.length]? = some y := by
      rw [List.getElem?_append_left (by simp), List.reverse_cons, List.getElem?_append_right (by simp)]; simp
    have w1 : IntKind.i64.wrap (((r.length + 1 : Nat) : Int) - 1) = (r.length : Int) := i64p (by omega)
    have hlen : (((y :: r).reverse ++ x :: t).map i1).length = r.length + 1 + (t.length + 1) := by simp; omega
    rw [slices_insertionSortCmpFunc_int_L2_eq, List.length_cons, cnd_decide, if_pos (by omega)]
    simp only [w1, Int.toNat_natCast, hlen, ixG_n (show r.length + 1 < r.length + 1 + (t.length + 1) by omega), ixG_n (show r.length < r.length + 1 + (t.length + 1) by omega), rdN_i1 g1, rdN_i1 g0]
    simp only [i1, cel_zero, dI_int, eqM_self']
    rw [npG_pos (by simpa using hf.1), hf.2 x y hx hy, rI_some]
    rw [slices_insertionSortCmpFunc_int_J1_eq]
    have e1 : (((y :: r).reverse ++ x :: t).map i1).set (r.length + 1) (i1 y) = ((y :: r).reverse ++ y :: t).map i1 := by
      have := set_i1 (y :: r).reverse t x y
      rw [List.length_reverse, List.length_cons] at this; exact this
    have e2 : (((y :: r).reverse ++ y :: t).map i1).set r.length (i1 x) = (r.reverse ++ x :: (y :: t)).map i1 := by
      have := set_i1 r.reverse (y :: t) y x
      rw [List.length_reverse] at this
      rw [List.reverse_cons, List.append_assoc]; exact this
    have hlen2 : (((y :: r).reverse ++ y :: t).map i1).length = r.length + 1 + (t.length + 1) := by simp; omega
    have g2 : ((y :: r).reverse ++ y :: t)[r.length]? = some y := by
      rw [List.getElem?_append_left (by simp), List.reverse_cons, List.getElem?_append_right (by simp)]; simp
    simp only [w1, Int.toNat_natCast, hlen, ixG_n (show r.length + 1 < r.length + 1 + (t.length + 1) by omega), ixG_n (show r.length < r.length + 1 + (t.length + 1) by omega), rdN_i1 g1, rdN_i1 g0, cnd_decide]
    unfold insR
    split
    · rename_i hlt
      simp only [i1, cel_zero, dI_int, eqM_self'] at e1 e2 ⊢
      have o1 : ovr [MV.int .i64 x] 0 [.int .i64 y] = [.int .i64 y] := rfl
      have o2 : ovr [MV.int .i64 y] 0 [.int .i64 x] = [.int .i64 x] := rfl
      rw [o1, e1, hlen2, ixG_n (by omega), rdN_i1 g2]
      simp only [i1, o2]
      rw [e2]
      have := ins_L2 fu n k1 g c f A hf v2 v8 r x (y :: t) k2 (fun z hz => hr z (List.mem_cons_of_mem _ hz)) hx (by omega) (by simp; omega)
      rw [this, List.reverse_cons, List.append_assoc]; rfl
    · simp only [List.reverse_cons, List.append_assoc]
      rfl

theorem ins_L1 (fu n : Nat) (g : FuncId) (c : List MV) (f : Int → Int → Int) (A : Int → Prop) (hf : CmpOk fu n g c f A) (hfu : 1000000 ≤ fu) : ∀ (t r : List Int) (k1 : Nat), (∀ y ∈ r, A y) → (∀ y ∈ t, A y) → t.length < k1 → r.length + t.length ≤ 50000 → 
    slices_insertionSortCmpFunc_int_L1 fu n k1 ((r.reverse ++ t).map i1) 0 ((r.length + t.length : Nat) : Int) g c (r.length : Nat) = some ([], [some (.row false 1 ((srt f t r).reverse.map i1) [])])
  | t, r, 0, hr, ht, hk, hl => by omega
  | [], r, k1 + 1, hr, ht, hk, hl => by
    rw [slices_insertionSortCmpFunc_int_L1_eq, cnd_decide, if_neg (by simp), List.append_nil]; rfl
  | x :: t, r, k1 + 1, hr, ht, hk, hl => by
    simp only [List.length_cons] at hk hl
    rw [slices_insertionSortCmpFunc_int_L1_eq, cnd_decide, if_pos (by simp only [List.length_cons]; omega)]
    rw [ins_L2 fu n k1 g c f A hf _ _ r x t fu hr (ht x (by simp)) (by omega) (by omega), i64k (by omega)]
    have h := ins_L1 fu n g c f A hf hfu t (insR f r x) k1 (fun y hy => by
      rcases insR_mem.1 hy with q | q
      · rw [q]; exact ht x (by simp)
      · exact hr y q) (fun y hy => ht y (List.mem_cons_of_mem _ hy)) (by omega) (by rw [insR_len]; omega)
    rw [insR_len, show r.length + 1 + t.length = r.length + (t.length + 1) from by omega] at h
    rw [List.length_cons, h]; rfl

theorem ins_ok (fu n : Nat) (g : FuncId) (c : List MV) (f : Int → Int → Int) (A : Int → Prop) (hf : CmpOk fu n g c f A) (hfu : 1000000 ≤ fu) (l : List Int) (hA : ∀ y ∈ l, A y) (hl : l.length ≤ 50000) :
    ev fu (n + 1) 131 [.ref 0, .int .i64 0, .int .i64 (l.length : Nat), .fn g c] [some (.row false 1 (l.map i1) [])] = some ([], [some (.row false 1 ((srt f l []).reverse.map i1) [])]) := by
  rw [slices_insertionSortCmpFunc_int_eq]
  cases l with
  | nil =>
    obtain ⟨k, rfl⟩ : ∃ k, fu = k + 1 := ⟨fu - 1, by omega⟩
    rw [slices_insertionSortCmpFunc_int_L1_eq, cnd_decide, if_neg (by decide)]; rfl
  | cons x t =>
    have h := ins_L1 fu n g c f A hf hfu t [x] fu (fun y hy => hA y (by simp at hy; simp [hy])) (fun y hy => hA y (by simp [hy])) (by simp at hl; omega) (by simp at hl ⊢; omega)
    have e : IntKind.i64.wrap ((0 : Int) + 1) = (([x] : List Int).length : Nat) := by
      show IntKind.i64.wrap ((0 : Int) + 1) = ((1 : Nat) : Int)
      decide
    have e2 : ((([x] : List Int).length + t.length : Nat) : Int) = (((x :: t).length : Nat) : Int) := by simp; omega
    rw [e2] at h
    rw [e]
    exact h

theorem sort_ok (fu n : Nat) (g : FuncId) (c : List MV) (f : Int → Int → Int) (A : Int → Prop) (hf : CmpOk fu n g c f A) (hfu : 1000000 ≤ fu) (l : List Int) (hA : ∀ y ∈ l, A y) (hl : l.length < 20) :
    ev fu (n + 3) 121 [.ref 0, .fn g c] [some (.row false 1 (l.map i1) [])] = some ([], [some (.row false 1 ((srt f l []).reverse.map i1) [])]) := by
  obtain ⟨k, rfl⟩ : ∃ k, fu = k + 1 := ⟨fu - 1, by omega⟩
  rw [slices_SortStableFunc_Sint_int_eq, npG_pos hf.1, slices_stableCmpFunc_int_eq, slices_stableCmpFunc_int_L1_eq, cnd_decide, List.length_map, if_neg (by omega), npG_pos hf.1, ins_ok (k + 1) n g c f A hf hfu l hA (by omega)]
  simp only [callE_some', unX_cons, dRw_row, unXN_nil, unN_nil]
  rw [slices_stableCmpFunc_int_L2_eq, cnd_decide, if_neg (by omega)]
  rfl
end Go.Pv
