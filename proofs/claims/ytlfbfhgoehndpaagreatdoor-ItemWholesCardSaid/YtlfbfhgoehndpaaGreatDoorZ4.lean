/- Chapter 1: the reference's families. -/
import Derived.Test.YtlfbfhgoehndpaaGreatDoorZ3
import Derived.Test.YtlfbfhgoehndpaaGreatDoorZ0
import Derived.Test.YtlfbfhgoehndpaaGreatDoorZ2
import Derived.Handed
import Derived.SizedLaws
import Derived.HandedShaped
set_option linter.unusedSimpArgs false
set_option linter.unusedVariables false
set_option maxRecDepth 100000
namespace Go.Pv
open Go Go.Proofs

/-! ### Rows of strings, compared -/
def cmpW : List ByteArray → List ByteArray → Int
  | [], [] => 0
  | [], _ :: _ => -1
  | _ :: _, [] => 1
  | x :: a, y :: b => if sless x y = true then -1 else if x = y then cmpW a b else 1
theorem cmpW_lt : ∀ (a b : List ByteArray), cmpW a b < 0 ↔ wlt a b
  | [], [] => by simp [cmpW, wlt_irr]
  | [], y :: b => by
    rw [cmpW]
    exact ⟨fun _ => by show wkey [] < wkey (y :: b); simp [wkey], fun _ => by decide⟩
  | x :: a, [] => by
    rw [cmpW]
    exact ⟨fun h => absurd h (by decide), fun h => by
      have h : wkey (x :: a) < wkey [] := h
      simp [wkey] at h⟩
  | x :: a, y :: b => by
    rw [cmpW]
    unfold wlt wkey
    simp only [List.map_cons]
    rw [List.cons_lt_cons_iff]
    by_cases h : sless x y = true
    · rw [if_pos h]
      rw [sless_eq, decide_eq_true_iff] at h
      exact ⟨fun _ => .inl h, fun _ => by decide⟩
    · rw [if_neg h]
      have hn : ¬ x.data.toList < y.data.toList := by rwa [sless_eq, decide_eq_true_iff] at h
      by_cases e : x = y
      · subst e
        rw [if_pos rfl, cmpW_lt a b]
        exact ⟨fun q => .inr ⟨rfl, q⟩, fun q => q.elim (fun z => absurd z hn) (fun z => z.2)⟩
      · rw [if_neg e]
        exact ⟨fun q => absurd q (by decide), fun q => q.elim (fun z => absurd z hn) (fun z => absurd (ba_ext z.1) e)⟩
def cmpS (x y : ByteArray) : Int := if sless x y = true then -1 else if x = y then 0 else 1
theorem isNaN_ok (fu n : Nat) (x : ByteArray) : ev fu (n + 1) 159 [.str x] [] = some ([.bool false], []) := by
  rw [cmp_isNaN_string_eq, decide_eq_true rfl]; rfl
theorem CompareS_ok (fu n : Nat) (x y : ByteArray) : ev fu (n + 2) 119 [.str x, .str y] [] = some ([.int .i64 (cmpS x y)], []) := by
  rw [cmp_Compare_string_eq, isNaN_ok, rB_some, isNaN_ok, rB_some]
  simp only [cnd_false]
  unfold cmpS
  cases h : sless x y with
  | true => rfl
  | false =>
    by_cases e : x = y
    · rw [decide_eq_true e, if_neg (by decide), if_pos e]; rfl
    · rw [decide_eq_false e, if_neg (by decide), if_neg e]; rfl
theorem CompareW_L1 (fu n : Nat) (a b : List ByteArray) (ha : a.length ≤ 400000) (hb : b.length ≤ 400000) : ∀ (m i k : Nat), i + m = a.length → m < k → i ≤ b.length →
    slices_Compare_Sstring_string_L1 fu (n + 2) k (strs a) (strs b) (strs a) (a.length : Nat) (i : Nat) = some ([.int .i64 (cmpW (a.drop i) (b.drop i))], [])
  | m, i, 0, hi, hk, hib => by omega
  | 0, i, k + 1, hi, hk, hib => by
    rw [slices_Compare_Sstring_string_L1_eq, cnd_decide, if_neg (by omega), strs_len, strs_len, cnd_decide, List.drop_of_length_le (show a.length ≤ i by omega)]
    by_cases h : b.length = i
    · rw [if_neg (by omega), List.drop_of_length_le (by omega)]; rfl
    · rw [if_pos (by omega), List.drop_eq_getElem_cons (show i < b.length by omega)]; rfl
  | m + 1, i, k + 1, hi, hk, hib => by
    have hlt : i < a.length := by omega
    rw [slices_Compare_Sstring_string_L1_eq, cnd_decide, if_pos (by omega), rdStrs hlt, strs_len, cnd_decide, List.drop_eq_getElem_cons hlt]
    by_cases h : b.length = i
    · rw [if_pos (by omega), List.drop_of_length_le (show b.length ≤ i by omega)]; rfl
    · have hlb : i < b.length := by omega
      rw [if_neg (by omega), rdStrs hlb, CompareS_ok, rI_some, List.drop_eq_getElem_cons hlb, i64s (by omega), CompareW_L1 fu n a b ha hb m (i + 1) k (by omega) (by omega) (by omega), cmpW]
      unfold cmpS
      cases hs : sless a[i] b[i] with
      | true => rfl
      | false =>
        by_cases e : a[i] = b[i]
        · rw [if_neg (by decide), if_pos e, if_neg (by decide), if_pos e]; rfl
        · rw [if_neg (by decide), if_neg e, if_neg (by decide), if_neg e]; rfl
theorem CompareW_ok (fu n : Nat) (a b : List ByteArray) (ha : a.length ≤ 400000) (hb : b.length ≤ 400000) (hfu : 1000000 ≤ fu) : ev fu (n + 3) 85 [.list (strs a), .list (strs b)] [] = some ([.int .i64 (cmpW a b)], []) := by
  rw [slices_Compare_Sstring_string_eq, strs_len]
  exact CompareW_L1 fu n a b ha hb a.length 0 fu (by omega) (by omega) (by omega)
/-! ### Ways -/
theorem rdId {α : Type} {xs : List Item} {i : Nat} {x : Item} (h : xs[i]? = some x) (K : ByteArray → Option α) : rd (xs.map itemC) (i : Int) (fun e => gd (List.length e = 7) (cel e 0 fun m => dS m K)) = K x.id := by
  rw [rdn h, gd_pos (itemC_len _)]; rfl
theorem way_L1 (fu n : Nat) (l : List Item) (us : List Item) (hu : ∀ y ∈ us, y ∈ l) (hl : us.length ≤ 100000) : ∀ (m i k : Nat) (v : List ByteArray), i + m = us.length → m < k → v.length ≤ i + 1 →
    chaseref2_FamiliesOf_1_L1 fu n k [.list (l.map itemC)] (strs v) ((us.map fun y => plc l y.id).map i1) (us.length : Nat) (i : Nat) = some ([.list (strs ((((us.drop i).map (·.id)).reverse) ++ v))], [])
  | m, i, 0, v, hi, hk, hv => by omega
  | 0, i, k + 1, v, hi, hk, hv => by
    rw [chaseref2_FamiliesOf_1_L1_eq, cnd_decide, if_neg (by omega), List.drop_of_length_le (by omega)]; rfl
  | m + 1, i, k + 1, v, hi, hk, hv => by
    have hlt : i < us.length := by omega
    have hm := hu us[i] (List.getElem_mem hlt)
    rcases itm_plc l us[i].id with ⟨h1, h2⟩ | ⟨q, z, h1, h2, h3, h4⟩
    · have := List.find?_eq_none.1 h2 us[i] hm
      simp at this
    · have hr : ∀ K : Int → Out, rd ((us.map fun y => plc l y.id).map i1) (i : Int) (fun e => gd (List.length e = 1) (cel e 0 fun m => dI .i64 m K)) = K q := fun K => by
        rw [rdm (by simpa using hlt), gd_pos (i1_len _), i1]
        simp only [cel_zero, dI_int, List.getElem_map, h1]
      have ih := way_L1 fu n l us hu hl m (i + 1) k (us[i].id :: v) (by omega) (by omega) (by simp; omega)
      rw [chaseref2_FamiliesOf_1_L1_eq, cnd_decide, if_pos (by omega), hr]
      simp only [cel_zero, dL_list]
      rw [rdId h2, wid_strs, sB_true, gL_pos (by rw [strs_len]; simp; omega), h4, ← strs_one, ← strs_app, i64s (by omega), List.singleton_append, ih, List.drop_eq_getElem_cons hlt, List.map_cons, List.reverse_cons, List.append_assoc]
      rfl
theorem way_ok (fu n : Nat) (l : List Item) (hT : Tree l) (hl : l.length ≤ 2000) (hfu : 1000000 ≤ fu) {i : Nat} {x : Item} (hx : l[i]? = some x) : ev fu (n + 5) 81 [.int .i64 (i : Nat), .cptr [.list (l.map itemC)] 0] [] = some ([.list (strs (wayL l x))], []) := by
  have hi := (List.getElem?_eq_some_iff.1 hx).1
  have ha := above_ok fu n l (by omega) hfu i hi
  have hb := abv_anc l i x hx
  have hm := List.mem_of_getElem? hx
  have hln := anc_len (g := itm l) (l.length + 1) x
  rw [chaseref2_FamiliesOf_1_eq]
  simp only [cel_zero, dL_list]
  rw [ha, hb]
  simp only [callE_some', unXN_nil, unC_cons, dL_list, dB_bool, unN_nil, cel_zero]
  rw [rdId hx, List.length_map, List.length_map]
  have := way_L1 fu (n + 4) l (anc (itm l) (l.length + 1) x) (fun y hy => by
    obtain ⟨j, _, h2⟩ := anc_mem.1 hy
    exact itU_mem hT.fam hm h2) (by omega) (anc (itm l) (l.length + 1) x).length 0 fu [x.id] (by omega) (by omega) (by simp)
  rw [List.drop_zero] at this
  exact this
def wayAt (l : List Item) (z : Int) : List ByteArray := match l[z.toNat]? with
  | some x => wayL l x
  | none => []
theorem wayL_len (l : List Item) (x : Item) : (wayL l x).length ≤ l.length + 2 := by
  have := anc_len (g := itm l) (l.length + 1) x
  unfold wayL; simp; omega
theorem cmp_ok (fu n : Nat) (l : List Item) (hT : Tree l) (hl : l.length ≤ 2000) (hfu : 1000000 ≤ fu) : CmpOk fu (n + 6) 84 [.cptr [.fn 81 [.cptr [.list (l.map itemC)] 0]] 0] (fun a b => cmpW (wayAt l a) (wayAt l b)) (fun z => 0 ≤ z ∧ z < (l.length : Int)) := by
  refine ⟨rfl, fun a b ha hb => ?_⟩
  obtain ⟨i, rfl⟩ : ∃ i : Nat, a = i := ⟨a.toNat, by omega⟩
  obtain ⟨j, rfl⟩ : ∃ j : Nat, b = j := ⟨b.toNat, by omega⟩
  have hi : l[i]? = some l[i] := List.getElem?_eq_getElem (by omega)
  have hj : l[j]? = some l[j] := List.getElem?_eq_getElem (by omega)
  have w1 := way_ok fu n l hT hl hfu hi
  have w2 := way_ok fu n l hT hl hfu hj
  have z1 := wayL_len l l[i]
  have z2 := wayL_len l l[j]
  show ev fu (n + 6) 84 [.int .i64 (i : Nat), .int .i64 (j : Nat), .cptr [.fn 81 [.cptr [.list (l.map itemC)] 0]] 0] [] = _
  rw [chaseref2_FamiliesOf_2_eq]
  simp only [cel_zero, dF_fn, List.cons_append, List.nil_append]
  rw [npG_pos rfl, w1, rL_some, npG_pos rfl, w2, rL_some, CompareW_ok fu (n + 2) _ _ (by omega) (by omega) hfu, rI_some]
  unfold wayAt
  rw [Int.toNat_natCast, Int.toNat_natCast, hi, hj]
theorem cmp_ord {l : List Item} (hT : Tree l) : Ord (fun a b => cmpW (wayAt l a) (wayAt l b)) (fun z => 0 ≤ z ∧ z < (l.length : Int)) := by
  refine ⟨fun a _ h => wlt_irr _ ((cmpW_lt _ _).1 h), fun a b c _ _ _ h1 h2 => (cmpW_lt _ _).2 (wlt_trans ((cmpW_lt _ _).1 h1) ((cmpW_lt _ _).1 h2)), fun a b ha hb hne h => (cmpW_lt _ _).2 (wlt_tri (fun q => h ((cmpW_lt _ _).2 q)) fun e => ?_)⟩
  obtain ⟨i, rfl⟩ : ∃ i : Nat, a = i := ⟨a.toNat, by omega⟩
  obtain ⟨j, rfl⟩ : ∃ j : Nat, b = j := ⟨b.toNat, by omega⟩
  have hi : l[i]? = some l[i] := List.getElem?_eq_getElem (by omega)
  have hj : l[j]? = some l[j] := List.getElem?_eq_getElem (by omega)
  unfold wayAt at e
  rw [Int.toNat_natCast, Int.toNat_natCast, hi, hj] at e
  have := hT.way_inj (List.getElem_mem _) (List.getElem_mem _) e
  have h1 := plc_at hT.dist hi
  rw [this, plc_at hT.dist hj] at h1
  exact hne h1.symm
end Go.Pv
/- What the laws of chapter 1 end with. -/
namespace Go.Pv
open Go Go.Proofs

theorem taken_ok (fu n : Nat) (hfu : 1000000 ≤ fu) : ev fu (n + 20) 17 [] [] = some ([.bool true], []) := by
  obtain ⟨q, rfl⟩ : ∃ q, fu = q + 50 := ⟨fu - 50, by omega⟩
  kernel_rfl
end Go.Pv
/- Chapter 1: sums of items; items of streams that are nearly right. -/
namespace Go.Pv
open Go Go.Proofs

/-! ### Sums -/
/-! ### Items of streams -/
theorem set_ItS {l : List Item} (hl : ∀ x ∈ l, ItS x) {x : Item} (hx : ItS x) (i : Nat) : ∀ y ∈ l.set i x, ItS y := fun y hy => by
  rcases List.mem_or_eq_of_mem_set hy with h | h
  · exact hl y h
  · subst h; exact hx
theorem ovr_kind (x : Item) (k : Int) : ovr (itemC x) 2 [.int .i64 k] = itemC { x with kind := k } := rfl
theorem ovr_all (x y : Item) : ovr (itemC x) 0 [.str y.id, .str y.cust, .int .i64 y.kind, .str y.name, .int .i64 y.at_, .str y.parent, .str y.text] = itemC y := rfl
theorem Items_L1 (fu n : Nat) (ls : List Int) : ∀ (m i k : Nat) (l : List Item) (at_ : Int), 1 ≤ l.length → l.length ≤ 2000 → (∀ x ∈ l, ItS x) → i + m = 4 → m < k → 0 ≤ at_ → at_ + 2 * m < 4000000000000000000 →
    ∃ (l' : List Item) (a : Int), l'.length = l.length ∧ (∀ x ∈ l', ItS x) ∧ at_ ≤ a ∧ a ≤ at_ + 2 * m ∧ chasemake_Stream_Items_L1 fu (n + 2) k (l.map itemC) (i : Nat) (ls.map i1) at_ = some ([.ref 1], [some (.box [.list (ls.map i1), .int .i64 a]), some (.row false 7 (l'.map itemC) [])])
  | m, i, 0, l, at_, hl, hl2, hs, hi, hk, h0, h1 => by omega
  | 0, i, k + 1, l, at_, hl, hl2, hs, hi, hk, h0, h1 => by
    rw [chasemake_Stream_Items_L1_eq, cnd_decide, if_neg (by omega)]
    exact ⟨l, at_, rfl, hs, by omega, by omega, rfl⟩
  | m + 1, i, k + 1, l, at_, hl, hl2, hs, hi, hk, h0, h1 => by
    obtain ⟨x5, hx5, g1⟩ := Next_ok fu n ls at_ (l.length : Nat) (by omega) (by omega)
    obtain ⟨x10, hx10, g2⟩ := Next_ok fu n ls (at_ + 1) (l.length : Nat) (by omega) (by omega)
    have hx5 := hx5 (by omega) (by omega)
    have hx10 := hx10 (by omega) (by omega)
    obtain ⟨p, rfl⟩ : ∃ p : Nat, x5 = p := ⟨x5.toNat, by omega⟩
    obtain ⟨q, rfl⟩ : ∃ q : Nat, x10 = q := ⟨x10.toNat, by omega⟩
    have hp : p < l.length := by omega
    have hq : q < l.length := by omega
    have r1 : ∀ K : List MV → Out, rdN (l.map itemC) p K = K (itemC l[p]) := fun K => rdN_get (by simp [hp]) K
    have r2 : ∀ K : List MV → Out, rdN (l.map itemC) q K = K (itemC l[q]) := fun K => rdN_get (by simp [hq]) K
    have x1 : ∀ o : Out, ixG (l.map itemC).length (p : Int) o = o := fun o => ixG_n (by simpa using hp) o
    have x2 : ∀ o : Out, ixG (l.map itemC).length (q : Int) o = o := fun o => ixG_n (by simpa using hq) o
    have c2 : ∀ (x : Item) (K : MV → Out), cel (itemC x) 0 K = K (.str x.id) := fun _ _ => rfl
    have hpS := hs l[p] (List.getElem_mem hp)
    have hqS := hs l[q] (List.getElem_mem hq)
    have h1' : ItS { l[p] with parent := l[q].id } := ⟨hpS.id, hpS.cust, hpS.name, hqS.id, hpS.text⟩
    obtain ⟨l', a, b1, b2, b3, b4, g⟩ := Items_L1 fu n ls m (i + 1) k (l.set p { l[p] with parent := l[q].id }) (at_ + 1 + 1) (by simpa using hl) (by simpa using hl2) (set_ItS hs h1' p) (by omega) (by omega) (by omega) (by omega)
    refine ⟨l', a, by simpa using b1, b2, by omega, by omega, ?_⟩
    rw [chasemake_Stream_Items_L1_eq, cnd_decide, if_pos (by omega), List.length_map, g1, skI_some, g2, skI_some]
    rw [List.length_map] at x1 x2
    simp only [x1, x2, Int.toNat_natCast, r1, r2, c2, dS_str]
    rw [i64s (by omega), ovr_par, ← g, List.map_set]
theorem Items_J1 (fu n : Nat) (hfu : 1000000 ≤ fu) (ls : List Int) (at_ : Int) (N : Nat) (hN : N ≤ 1000) (l : List Item) (hl : 1 ≤ l.length) (hl2 : l.length ≤ 1000) (hs : ∀ x ∈ l, ItS x) (h0 : 0 ≤ at_) (h1 : at_ < 800000000000000000) :
    ∃ (l' : List Item) (a : Int), l'.length ≤ l.length + 1 ∧ (∀ x ∈ l', ItS x) ∧ 0 ≤ a ∧ a ≤ at_ + 500 ∧ chasemake_Stream_Items_J1 fu (n + 5) (N : Nat) (l.map itemC) true (ls.map i1) at_ = some ([.ref 1], [some (.box [.list (ls.map i1), .int .i64 a]), some (.row false 7 (l'.map itemC) [])]) := by
  obtain ⟨x5, hx5, g1⟩ := Next_ok fu (n + 3) ls at_ (l.length : Nat) (by omega) (by omega)
  obtain ⟨x10, hx10, g2⟩ := Next_ok fu (n + 3) ls (at_ + 1) 5 (by omega) (by omega)
  have hx5 := hx5 (by omega) (by omega)
  obtain ⟨p, rfl⟩ : ∃ p : Nat, x5 = p := ⟨x5.toNat, by omega⟩
  have hp : p < l.length := by omega
  have r1 : ∀ K : List MV → Out, rdN (l.map itemC) p K = K (itemC l[p]) := fun K => rdN_get (by simp [hp]) K
  have x1 : ∀ o : Out, ixG l.length (p : Int) o = o := fun o => ixG_n hp o
  have c2 : ∀ (x : Item) (K : MV → Out), cel (itemC x) 0 K = K (.str x.id) := fun _ _ => rfl
  have hpS := hs l[p] (List.getElem_mem hp)
  rw [chasemake_Stream_Items_J1_eq, cnd_true, List.length_map]
  unfold sb at g1 g2
  rw [g1, skI_some, g2, skI_some, cnd_decide]
  by_cases k0 : x10 = 0
  · obtain ⟨x21, hx21, g3⟩ := Next_ok fu (n + 3) ls (at_ + 1 + 1) (N : Nat) (by omega) (by omega)
    obtain ⟨id, hid, g4⟩ := itemId_ok fu (n + 4) x21
    obtain ⟨x33, q33, g5⟩ := some10_ok fu (n + 2) ls (at_ + 1 + 1 + 1) [[.str ⟨#[105, 122, 122]⟩], [.str id], [.str l[p].id]] [⟨#[105, 122, 122]⟩, id, l[p].id] rfl (by omega) (by omega) (by simp) (by simp)
    have z33 : x33.size ≤ 10 := by
      simp only [List.mem_cons, List.not_mem_nil, or_false] at q33
      rcases q33 with rfl | rfl | rfl
      · decide
      · exact hid
      · exact hpS.id
    unfold sb at g3 g5
    rw [if_pos k0]
    simp only [x1, Int.toNat_natCast, r1, c2, dS_str, eqM_self', g3, skI_some, g4, rS_some, g5, skS_some, ovr_par]
    have hx' : ItS { l[p] with parent := x33 } := ⟨hpS.id, hpS.cust, hpS.name, z33, hpS.text⟩
    exact ⟨l.set p { l[p] with parent := x33 }, at_ + 1 + 1 + 1 + 1, by simp, set_ItS hs hx' p, by omega, by omega, by rw [List.map_set]⟩
  rw [if_neg k0, cnd_decide]
  by_cases k1 : x10 = 1
  · obtain ⟨x, a, hx, b1, b2, g3⟩ := Item_ok fu n hfu ls (at_ + 1 + 1) l[p].id hpS.id (by omega) (by omega)
    unfold sb at g3
    rw [if_pos k1]
    simp only [x1, Int.toNat_natCast, r1, c2, dS_str]
    rw [g3, skItem]
    simp only [x1, r1, ovr_all]
    exact ⟨l.set p x, a, by simp, set_ItS hs hx p, by omega, by omega, by rw [List.map_set]⟩
  rw [if_neg k1, cnd_decide]
  by_cases k2 : x10 = 2
  · have r0 : ∀ K : List MV → Out, rdN (l.map itemC) (Int.toNat 0) K = K (itemC l[0]) := fun K => rdN_get (by show (l.map itemC)[0]? = _; rw [List.getElem?_map, List.getElem?_eq_getElem (by omega)]; rfl) K
    have e0 : ∀ o : Out, ixG l.length (0 : Int) o = o := fun o => ixG_pos (by omega) (by show 0 < l.length; omega) o
    have hS0 := hs l[0] (List.getElem_mem _)
    rw [if_pos k2]
    simp only [e0, r0]
    rw [gd_pos (by simp)]
    simp only [itemC, List.drop_zero, List.take_succ_cons, List.take_zero, unC_cons, dS_str, dI_int, unN_nil]
    rw [gL_pos (by simp; omega)]
    refine ⟨l ++ [l[0]], at_ + 1 + 1, by simp, fun y hy => ?_, by omega, by omega, by rw [List.map_append]; rfl⟩
    rcases List.mem_append.1 hy with h | h
    · exact hs y h
    · rcases List.mem_singleton.1 h with rfl; exact hS0
  rw [if_neg k2, cnd_decide]
  by_cases k3 : x10 = 3
  · obtain ⟨v, a, b1, b2, g3⟩ := odd10_ok fu (n + 1) ls (at_ + 1 + 1) 1 4 (by omega) (by omega) (by omega) (by omega) (by omega)
    unfold sb at g3
    rw [if_pos k3, g3, skI_some]
    simp only [x1, Int.toNat_natCast, r1, ovr_kind]
    have hx' : ItS { l[p] with kind := v } := ⟨hpS.id, hpS.cust, hpS.name, hpS.parent, hpS.text⟩
    exact ⟨l.set p { l[p] with kind := v }, a, by simp, set_ItS hs hx' p, by omega, by omega, by rw [List.map_set]⟩
  rw [if_neg k3]
  obtain ⟨l', a, b1, b2, b3, b4, g⟩ := Items_L1 fu (n + 3) ls 4 0 fu l (at_ + 1 + 1) hl (by omega) hs (by omega) (by omega) (by omega) (by omega)
  exact ⟨l', a, by omega, b2, by omega, by omega, g⟩
theorem Items_ok (fu n : Nat) (hfu : 1000000 ≤ fu) (ls : List Int) (at_ : Int) (N : Nat) (hN : N ≤ 1000) (h0 : 0 ≤ at_) (h1 : at_ < 700000000000000000) :
    ∃ (l : List Item) (a : Int), l.length ≤ N + 1 ∧ (∀ x ∈ l, ItS x) ∧ 0 ≤ a ∧ a ≤ at_ + 123000 ∧ ev fu (n + 9) 8 [.ptr 0 0, .int .i64 (N : Nat)] (sb ls at_) = some ([.ref 1], [some (.box [.list (ls.map i1), .int .i64 a]), some (.row false 7 (l.map itemC) [])]) := by
  obtain ⟨l, a, p1, p2, p3, p4, g1⟩ := RightItems_ok fu n hfu ls at_ N hN h0 (by omega)
  unfold sb at g1 ⊢
  rw [chasemake_Stream_Items_eq, g1, skR_eq, List.length_map, cnd_decide]
  by_cases hl : (0 : Int) < (l.length : Int)
  · obtain ⟨b, g2⟩ := Flip_ok fu (n + 5) ls a 8 p3 (by omega)
    unfold sb at g2
    rw [if_pos hl, g2, skB_some]
    cases b
    · rw [chasemake_Stream_Items_J1_eq, cnd_false]
      exact ⟨l, _, by omega, p2, by omega, by omega, rfl⟩
    · obtain ⟨l', a', b1, b2, b3, b4, g3⟩ := Items_J1 fu (n + 3) hfu ls (a + 1) N hN l (by omega) (by omega) p2 (by omega) (by omega)
      exact ⟨l', a', by omega, b2, by omega, by omega, g3⟩
  · rw [if_neg hl, chasemake_Stream_Items_J1_eq, cnd_false]
    exact ⟨l, _, by omega, p2, by omega, by omega, rfl⟩
/-! ### The law -/
end Go.Pv
/- Chapter 1: the reference's families are the program's. -/
namespace Go.Pv
open Go Go.Proofs

/-! ### The order -/
def rngI (n : Nat) : List Int := (List.range n).map fun i : Nat => ((i : Nat) : Int)
theorem eqO_row (r : Res) (d : Bool) (s : Nat) (es : List (List MV)) : eqO (some (r, [some (.row d s es [])])) (some (r, [some (.row d s es [])])) = some (r, [some (.row d s es [])]) := by
  simp [eqO, mvBL_self, bxB, obB, mvBLL_self, sB]
theorem rngI_len (n : Nat) : (rngI n).length = n := by simp [rngI]
theorem rngI_mem {n : Nat} {z : Int} : z ∈ rngI n ↔ 0 ≤ z ∧ z < (n : Int) := by
  unfold rngI
  rw [List.mem_map]
  constructor
  · rintro ⟨i, hi, rfl⟩
    have := List.mem_range.1 hi
    omega
  · rintro ⟨h0, h1⟩
    exact ⟨z.toNat, List.mem_range.2 (by omega), by omega⟩
theorem rngI_nodup (n : Nat) : (rngI n).Nodup := by
  unfold rngI
  rw [List.Nodup, List.pairwise_map]
  exact List.nodup_range.imp fun h e => h (by omega)
def ordP (l : List Item) : List Item := (kidI l ⟨#[]⟩).flatMap (belI l 4)
theorem order_is {l : List Item} (hT : Tree l) : (srt (fun a b => cmpW (wayAt l a) (wayAt l b)) (rngI l.length) []).reverse = (ordP l).map fun y => plc l y.id := by
  obtain ⟨p1, p2⟩ := hT.all_order
  have hs := srt_ord (cmp_ord hT) (rngI l.length) [] (by simp) (fun y hy => rngI_mem.1 hy) (rngI_nodup _) (by simp) List.Pairwise.nil
  have hpl : ∀ y ∈ l, ∃ k : Nat, plc l y.id = k ∧ l[k]? = some y := fun y hy => by
    obtain ⟨k, hk⟩ := List.mem_iff_getElem?.1 hy
    exact ⟨k, plc_at hT.dist hk, hk⟩
  have hway : ∀ y ∈ l, wayAt l (plc l y.id) = wayL l y := fun y hy => by
    obtain ⟨k, h1, h2⟩ := hpl y hy
    unfold wayAt
    rw [h1, Int.toNat_natCast, h2]
  refine sorted_unique (R := fun a b => cmpW (wayAt l a) (wayAt l b) < 0) (fun a h => wlt_irr _ ((cmpW_lt _ _).1 h)) (fun a b h k => wlt_asymm _ _ ((cmpW_lt _ _).1 h) ((cmpW_lt _ _).1 k)) _ _ (List.pairwise_reverse.2 hs) ?_ (fun z => ?_)
  · rw [List.pairwise_map]
    refine List.Pairwise.imp_of_mem (fun {a b} ha hb h => ?_) p1
    rw [cmpW_lt, hway a ((p2 a).1 ha), hway b ((p2 b).1 hb)]
    exact h
  · rw [List.mem_reverse, srt_mem, rngI_mem, List.mem_map]
    constructor
    · rintro (⟨h0, h1⟩ | h)
      · have hz : l[z.toNat]? = some l[z.toNat] := List.getElem?_eq_getElem (by omega)
        refine ⟨l[z.toNat], (p2 _).2 (List.getElem_mem _), ?_⟩
        have := plc_at hT.dist hz
        rw [this]; omega
      · cases h
    · rintro ⟨y, hy, rfl⟩
      obtain ⟨k, h1, h2⟩ := hpl y ((p2 y).1 hy)
      have := (List.getElem?_eq_some_iff.1 h2).1
      exact .inl (by omega)
/-! ### Families, one by one -/
def famHC (f : ByteArray × List ByteArray) : List MV := [.str f.1, .hold false 1 (.list (strs f.2))]
def famLC (f : ByteArray × List ByteArray) : List MV := [.str f.1, .list (strs f.2)]
def famI (l : List Item) (t : Item) : ByteArray × List ByteArray := (t.id, idsI (belI l 4 t))
def famsI (l : List Item) : List (ByteArray × List ByteArray) := (kidI l ⟨#[]⟩).map (famI l)
theorem shLL_fam (F : List (ByteArray × List ByteArray)) : shLL (F.map famHC) = F.map famLC := by
  rw [shLL_map, List.map_map]
  apply List.map_congr_left
  intro f _
  simp [famHC, famLC, shM, shH]
def famS (F : List (ByteArray × List ByteArray)) (x : Item) : List (ByteArray × List ByteArray) :=
  if x.parent = ⟨#[]⟩ then F ++ [(x.id, [x.id])] else match F.getLast? with
    | some f => F.dropLast ++ [(f.1, f.2 ++ [x.id])]
    | none => F
theorem famS_tail : ∀ (r : List Item) (F : List (ByteArray × List ByteArray)) (t : ByteArray) (ids : List ByteArray), (∀ y ∈ r, y.parent ≠ ⟨#[]⟩) → r.foldl famS (F ++ [(t, ids)]) = F ++ [(t, ids ++ idsI r)]
  | [], F, t, ids, h => by simp [idsI]
  | x :: r, F, t, ids, h => by
    rw [List.foldl_cons]
    have e : famS (F ++ [(t, ids)]) x = F ++ [(t, ids ++ [x.id])] := by
      unfold famS
      rw [if_neg (h x (List.mem_cons_self ..))]
      simp
    rw [e, famS_tail r F t (ids ++ [x.id]) (fun y hy => h y (List.mem_cons_of_mem _ hy))]
    simp [idsI]
theorem famS_all {l : List Item} (hT : Tree l) : ∀ (ts : List Item) (F : List (ByteArray × List ByteArray)), (∀ t ∈ ts, t ∈ kidI l ⟨#[]⟩) → (ts.flatMap (belI l 4)).foldl famS F = F ++ ts.map (famI l)
  | [], F, h => by simp
  | t :: ts, F, h => by
    obtain ⟨h1, h2⟩ := kidI_mem.1 (h t (List.mem_cons_self ..))
    obtain ⟨r, e1, e2⟩ := hT.bel_tail (k := 4) h1
    have e3 : idsI (belI l 4 t) = t.id :: idsI r := by rw [e1]; rfl
    rw [List.flatMap_cons, List.foldl_append, e1, List.foldl_cons]
    have e : famS F t = F ++ [(t.id, [t.id])] := by unfold famS; rw [if_pos h2]
    rw [e, famS_tail r F t.id [t.id] e2, famS_all hT ts _ (fun y hy => h y (List.mem_cons_of_mem _ hy))]
    unfold famI
    simp [e3]
/-- What comes first is a top. -/
def okP : Bool → List Item → Prop
  | _, [] => True
  | b, x :: r => (b = true ∨ x.parent = ⟨#[]⟩) ∧ okP true r
theorem okP_true : ∀ r : List Item, okP true r
  | [] => trivial
  | x :: r => ⟨.inl rfl, okP_true r⟩
theorem okP_ord {l : List Item} (hT : Tree l) : okP false (ordP l) := by
  unfold ordP
  cases e : kidI l ⟨#[]⟩ with
  | nil => trivial
  | cons t ts =>
    have ht : t ∈ kidI l ⟨#[]⟩ := by rw [e]; exact List.mem_cons_self ..
    obtain ⟨h1, h2⟩ := kidI_mem.1 ht
    obtain ⟨r, e1, _⟩ := hT.bel_tail (k := 4) h1
    rw [List.flatMap_cons, e1]
    exact ⟨.inr h2, okP_true _⟩
theorem famJ1 (fu n k : Nat) (l : List Item) (S : List (List MV)) (v28 v29 : Int) (h29 : 0 ≤ v29 ∧ v29 < 1000000) {q : Nat} {x : Item} (hx : l[q]? = some x) (A : List (ByteArray × List ByteArray)) (e : List MV) (t : ByteArray) (ids : List ByteArray) (he : ∀ K : List (List MV) → Out, hdE 1 e 1 K = K (strs ids)) (hs : ∀ c, e.set 1 c = [.str t, c]) (hA : A.length ≤ 100000) (hids : ids.length ≤ 100000) (R : List (List MV))
    (hL : chaseref2_FamiliesOf_L2 fu n k (l.map itemC) ((A ++ [(t, ids ++ [x.id])]).map famHC) S v28 (v29 + 1) = some ([.ref 0], [some (.row true 2 R [])])) :
    chaseref2_FamiliesOf_J1 fu n k (l.map itemC) (A.map famHC ++ [e]) (q : Nat) S v28 v29 = some ([.ref 0], [some (.row true 2 R [])]) := by
  have hlen : (A.map famHC ++ [e]).length = A.length + 1 := by simp
  have hw : IntKind.i64.wrap (((A.length + 1 : Nat) : Int) - 1) = (A.length : Nat) := by rw [w64 (by omega) (by omega)]; omega
  have hg : (A.map famHC ++ [e])[A.length]? = some e := by rw [List.getElem?_append_right (by simp)]; simp
  have hr : ∀ K : List MV → Out, rdN (A.map famHC ++ [e]) A.length K = K e := fun K => rdN_get hg K
  have hset : (A.map famHC ++ [e]).set A.length [.str t, .hold false 1 (.list (strs ids ++ [[.str x.id]]))] = (A ++ [(t, ids ++ [x.id])]).map famHC := by
    rw [List.set_append, if_neg (by simp), List.map_append]
    simp [famHC, strs_app, strs_one]
  have hi : IntKind.i64.wrap (v29 + 1) = v29 + 1 := w64 (by omega) (by omega)
  have hgl : ∀ o : Out, gL ((strs ids).length + ([[.str x.id]] : List (List MV)).length) o = o := fun o => gL_pos (by rw [strs_len]; simp; omega) o
  rw [chaseref2_FamiliesOf_J1_eq, hlen, hw, ixG_n (by omega), rdId hx, Int.toNat_natCast]
  simp only [eqM_self', hr, he, hgl, gd_true, hs, hset, hi, hL, eqO_row]
theorem famHC_hd (f : ByteArray × List ByteArray) (K : List (List MV) → Out) : hdE 1 (famHC f) 1 K = K (strs f.2) := rfl
theorem fam_L2 (fu n : Nat) (l : List Item) (hl : l.length ≤ 2000) (P : List Item) (hP : ∀ y ∈ P, y ∈ l) (hd : DistI l) (hPl : P.length ≤ 2000) : ∀ (m i k : Nat) (F : List (ByteArray × List ByteArray)), i + m = P.length → m < k → okP (!F.isEmpty) (P.drop i) → F.length ≤ i → (∀ f ∈ F, f.2.length ≤ i) →
    chaseref2_FamiliesOf_L2 fu n k (l.map itemC) (F.map famHC) ((P.map fun y => plc l y.id).map i1) (P.length : Nat) (i : Nat) = some ([.ref 0], [some (.row true 2 (((P.drop i).foldl famS F).map famHC) [])])
  | m, i, 0, F, hi, hk, ho, h1, h2 => by omega
  | 0, i, k + 1, F, hi, hk, ho, h1, h2 => by
    rw [chaseref2_FamiliesOf_L2_eq, cnd_decide, if_neg (by omega), List.drop_of_length_le (by omega)]; rfl
  | m + 1, i, k + 1, F, hi, hk, ho, h1, h2 => by
    have hlt : i < P.length := by omega
    obtain ⟨q, hq⟩ := List.mem_iff_getElem?.1 (hP P[i] (List.getElem_mem hlt))
    have hp := plc_at hd hq
    rw [List.drop_eq_getElem_cons hlt] at ho ⊢
    have hlen : ((P.map fun y => plc l y.id).map i1).length = P.length := by simp
    have hg : ((P.map fun y => plc l y.id).map i1)[i]? = some (i1 (q : Nat)) := by
      rw [List.getElem?_map, List.getElem?_map, List.getElem?_eq_getElem hlt]
      simp only [Option.map_some, hp]
    have hr : ∀ K : List MV → Out, rdN ((P.map fun y => plc l y.id).map i1) i K = K (i1 (q : Nat)) := fun K => rdN_get hg K
    have hcl : ∀ K : MV → Out, cel (i1 (q : Nat)) 0 K = K (.int .i64 (q : Nat)) := fun _ => rfl
    rw [chaseref2_FamiliesOf_L2_eq, cnd_decide, if_pos (by omega), hlen, ixG_n (by omega), Int.toNat_natCast, hr, hcl, dI_int, rdPar hq, cnd_decide, List.foldl_cons]
    have hgo : ∀ F', F' = famS F P[i] → F'.isEmpty = false → F'.length ≤ i + 1 → (∀ f ∈ F', f.2.length ≤ i + 1) → chaseref2_FamiliesOf_L2 fu n k (l.map itemC) (F'.map famHC) ((P.map fun y => plc l y.id).map i1) (P.length : Nat) ((i : Nat) + 1 : Int) = some ([.ref 0], [some (.row true 2 (((P.drop (i + 1)).foldl famS (famS F P[i])).map famHC) [])]) := by
      intro F' e1 e2 e3 e4
      subst e1
      have := fam_L2 fu n l hl P hP hd hPl m (i + 1) k (famS F P[i]) (by omega) (by omega) (by rw [e2]; exact ho.2) e3 e4
      exact this
    by_cases hpar : P[i].parent = ⟨#[]⟩
    · have es : famS F P[i] = F ++ [(P[i].id, [P[i].id])] := by unfold famS; rw [if_pos hpar]
      have hL := hgo _ es.symm (by simp) (by simp; omega) (fun f hf => by
        rcases List.mem_append.1 hf with hf | hf
        · have := h2 f hf; omega
        · rcases List.mem_singleton.1 hf with rfl; simp)
      rw [if_pos hpar, rdId hq, gL_pos (by simp; omega)]
      exact famJ1 fu n k l _ _ (i : Nat) ⟨by omega, by omega⟩ hq F [.str P[i].id, .nil] P[i].id [] (fun K => rfl) (fun c => rfl) (by omega) (by simp) _ hL
    · rw [if_neg hpar]
      have hne : F ≠ [] := by
        intro e
        subst e
        rcases ho.1 with h | h
        · cases h
        · exact hpar h
      obtain ⟨A, f, rfl⟩ : ∃ A f, F = A ++ [f] := ⟨F.dropLast, F.getLast hne, (List.dropLast_concat_getLast hne).symm⟩
      have es : famS (A ++ [f]) P[i] = A ++ [(f.1, f.2 ++ [P[i].id])] := by
        unfold famS
        rw [if_neg hpar]; simp
      have hf := h2 f (by simp)
      have hL := hgo _ es.symm (by simp) (by simp at h1 ⊢; omega) (fun f' hf' => by
        rcases List.mem_append.1 hf' with hf' | hf'
        · have := h2 f' (List.mem_append_left _ hf'); omega
        · rcases List.mem_singleton.1 hf' with rfl; simp; omega)
      have := famJ1 fu n k l ((P.map fun y => plc l y.id).map i1) (P.length : Nat) (i : Nat) ⟨by omega, by omega⟩ hq A (famHC f) f.1 f.2 (famHC_hd f) (fun c => rfl) (by simp at h1; omega) (by omega) _ hL
      rw [List.map_append]
      exact this
theorem fill_L1 (fu n : Nat) (L : List (List MV)) (N : Nat) (hN : N ≤ 100000) (R : Out) (hR : ∀ k, chaseref2_FamiliesOf_L1 fu n (k + 1) L ((rngI N).map i1) (N : Nat) (N : Nat) L = R) : ∀ (m i k : Nat) (xs : List Int), i + m = N → m < k → xs.length = N → (∀ j, j < i → xs[j]? = some (j : Int)) →
    chaseref2_FamiliesOf_L1 fu n k L (xs.map i1) (N : Nat) (i : Nat) L = R
  | m, i, 0, xs, hi, hk, hl, hx => by omega
  | 0, i, k + 1, xs, hi, hk, hl, hx => by
    have e : xs = rngI N := by
      apply List.ext_getElem?
      intro j
      unfold rngI
      rw [List.getElem?_map]
      rcases Nat.lt_or_ge j N with h | h
      · rw [hx j (by omega), List.getElem?_range h]; rfl
      · rw [List.getElem?_eq_none (by omega), List.getElem?_eq_none (by simpa using h)]; rfl
    subst e
    have : i = N := by omega
    subst this
    exact hR k
  | m + 1, i, k + 1, xs, hi, hk, hl, hx => by
    have hlt : i < xs.length := by omega
    have hg : (xs.map i1)[i]? = some (i1 xs[i]) := by rw [List.getElem?_map, List.getElem?_eq_getElem hlt]; rfl
    have hr : ∀ K : List MV → Out, rdN (xs.map i1) i K = K (i1 xs[i]) := fun K => rdN_get hg K
    have hset : (xs.map i1).set i (i1 (i : Nat)) = (xs.set i (i : Nat)).map i1 := by rw [List.map_set]
    rw [chaseref2_FamiliesOf_L1_eq, cnd_decide, if_pos (by omega), List.length_map, ixG_n (by omega), Int.toNat_natCast, hr, ovr_i1, hset, i64s (by omega)]
    exact fill_L1 fu n L N hN R hR m (i + 1) k (xs.set i (i : Nat)) (by omega) (by omega) (by simpa using hl) (fun j hj => by
      rw [List.getElem?_set]
      by_cases e : i = j
      · subst e; simp [hlt]
      · rw [if_neg e]; exact hx j (by omega))
theorem FamiliesOf_ok (fu n : Nat) (l : List Item) (hT : Tree l) (hl : l.length ≤ 12) (hfu : 1000000 ≤ fu) : ev fu (n + 10) 32 [.list (l.map itemC)] [] = some ([.ref 0], [some (.row true 2 ((famsI l).map famHC) [])]) := by
  have hs := SortFunc_ok fu (n + 6) 84 _ _ _ (cmp_ok fu n l hT (by omega) hfu) hfu (rngI l.length) (fun y hy => rngI_mem.1 hy) (by rw [rngI_len]; exact hl)
  rw [order_is hT] at hs
  obtain ⟨p1, p2⟩ := hT.all_order
  have hPl : (ordP l).length ≤ l.length := nodup_len _ _ (p1.imp fun {a b} h e => by subst e; exact wlt_irr _ h) (fun y hy => (p2 y).1 hy)
  have h2 := fam_L2 fu (n + 9) l (by omega) (ordP l) (fun y hy => (p2 y).1 hy) hT.dist (by omega) (ordP l).length 0 fu [] (by omega) (by omega) (by rw [List.drop_zero]; exact okP_ord hT) (by simp) (by simp)
  rw [List.drop_zero] at h2
  have h3 : (ordP l).foldl famS [] = famsI l := by
    unfold ordP famsI
    have := famS_all hT (kidI l ⟨#[]⟩) [] (fun t ht => ht)
    simpa using this
  rw [h3] at h2
  have hR : ∀ k, chaseref2_FamiliesOf_L1 fu (n + 9) (k + 1) (l.map itemC) ((rngI l.length).map i1) (l.length : Nat) (l.length : Nat) (l.map itemC) = some ([.ref 0], [some (.row true 2 ((famsI l).map famHC) [])]) := by
    intro k
    rw [chaseref2_FamiliesOf_L1_eq, cnd_decide, if_neg (by omega), hs]
    simp only [callE_some', unX_cons, dRw_row, unXN_nil, unN_nil, List.length_map]
    exact h2
  have h4 := fill_L1 fu (n + 9) (l.map itemC) l.length (by omega) _ hR l.length 0 fu (List.replicate l.length 0) (by omega) (by omega) (by simp) (fun j hj => by omega)
  rw [chaseref2_FamiliesOf_eq, List.length_map, gd_pos (by omega), Int.toNat_natCast, List.length_replicate]
  rw [List.map_replicate] at h4
  exact h4
end Go.Pv
/- Chapter 1: the program's families, and the law ItemFamilies. -/
namespace Go.Pv
open Go Go.Proofs

section
variable {α : Type}
@[simp] theorem famLC_len (f : ByteArray × List ByteArray) : (famLC f).length = 2 := rfl
theorem rdFam {xs : List (ByteArray × List ByteArray)} {i : Nat} (h : i < xs.length) (K : ByteArray → List (List MV) → Option α) : rd (xs.map famLC) (i : Int) (fun e1 => gd (List.length e1 = 2) (gd (0 + 2 ≤ List.length e1) (unC (List.take 2 (List.drop 0 e1)) fun m2 c3 => (dS m2 fun x4 => (unC c3 fun m5 c6 => (dL m5 fun x7 => (unN c6 (K x4 x7)))))))) = K xs[i].1 (strs xs[i].2) := by
  rw [rdm h, gd_pos (famLC_len _), gd_pos (by simp)]
  simp [famLC]
/-- A tree that a function hands out. -/
theorem unTree (l : List Item) (K : List (MKey × MV) → List (MKey × MV) → List (List MV) → Option α) : (callE (some ([.agg (treC l)], ([] : Bxs))) fun r2 B3 => unXN B3 (unC r2 fun m4 r5 => (dA m4 fun c6 => (unC c6 fun m7 c8 => (dM m7 fun x9 => (unC c8 fun m10 c11 => (dM m10 fun x12 => (unC c11 fun m13 c14 => (dL m13 fun x15 => (unN c14 (unN r5 (K x9 x12 x15)))))))))))) = K (smap itemM (byIdL l)) (smap listM (kmF l [])) (strs (idsI (kidI l ⟨#[]⟩))) := by
  simp only [callE_some', treC, unXN_nil, unC_cons, dA_agg, dM_map, dL_list, unN_nil]
end
theorem tops_len (l : List Item) : (idsI (kidI l ⟨#[]⟩)).length ≤ l.length := by
  rw [idsI_len]; exact List.length_filter_le ..
theorem itemsE_len {l : List Item} (h : itemsE l = 0) : l.length ≤ 2000 := by
  have := if_zero (fnz0 _ h (if decide ((2000 : Int) < (l.length : Int)) = true then 2 else 0) (by simp)) (by decide)
  have := of_decide_eq_false this
  omega
theorem famsI_len {l : List Item} (hT : Tree l) : (famsI l).length ≤ l.length ∧ ∀ f ∈ famsI l, f.2.length ≤ l.length := by
  refine ⟨by unfold famsI; rw [List.length_map]; exact List.length_filter_le .., fun f hf => ?_⟩
  obtain ⟨t, ht, rfl⟩ := List.mem_map.1 hf
  show (idsI _).length ≤ _
  rw [idsI_len]
  exact hT.bel_len 4 (kidI_mem.1 ht).1
/-- What the reference hands out as a deep row of its own. -/
theorem unDeep (es : List (List MV)) (K : List (List MV) → Out) : (callE (some ([.ref 0], [some (.row true 2 es [])])) fun r32 B33 => (unX B33 fun o34 B35 => (dRw true 2 o34 fun x36 => (unXN B35 (unC r32 fun m37 r38 => (dRf 0 m37 (unN r38 (K x36)))))))) = K es := by
  simp only [callE_some', unX_cons, dRw_row, unXN_nil, unC_cons, dRf_ref, unN_nil]
end Go.Pv
/- Chapter 1: places in families, and the law ItemPlaces. -/
namespace Go.Pv
open Go Go.Proofs

theorem itm_id {l : List Item} {id : ByteArray} {x : Item} (h : itm l id = some x) : x ∈ l ∧ x.id = id := by
  have h1 := List.mem_of_find?_eq_some h
  have h2 := List.find?_some h
  exact ⟨h1, by simpa using h2⟩
/-! ### The reference -/
/-! ### The law -/
theorem has_ok (fu n : Nat) (l : List Item) (hl : l.length ≤ 400000) (id : ByteArray) (hfu : 1000000 ≤ fu) : ev fu (n + 4) 36 [.list (l.map itemC), .str id] [] = some ([.bool (itm l id).isSome], []) := by
  have h := IndexFuncI_ok fu (n + 1) 88 [.cptr [.str id] 0] (fun x => decide (x.id = id)) rfl (fun a => by
    show ev fu (n + 1) 88 [.agg (itemC a), .cptr [.str id] 0] [] = _
    unfold itemC
    rw [chaselaw2_has_1_eq]; rfl) l hl hfu
  rw [chaselaw2_has_eq, slices_ContainsFunc_Sapi_Item_api_Item_eq, npG_pos rfl, h, rI_some, rB_some]
  have : decide (0 ≤ fIx (fun x : Item => decide (x.id = id)) 0 l) = (itm l id).isSome := by
    rcases itm_plc l id with ⟨h1, h2⟩ | ⟨k, y, h1, h2, h3, h4⟩
    · unfold plc at h1; rw [h1, h2]; rfl
    · unfold plc at h1; rw [h1, h3]; exact decide_eq_true (by omega)
  rw [this]
theorem AnyId_ok (fu n : Nat) (l : List Item) (hl : l.length ≤ 100000) (hS : ∀ x ∈ l, ItS x) (ls : List Int) (at_ : Int) (h0 : 0 ≤ at_) (h1 : at_ < 2000000000000000000) : ∃ s a, 0 ≤ a ∧ a ≤ at_ + 2 ∧ ev fu (n + 4) 34 [.ptr 0 0, .list (l.map itemC)] (sb ls at_) = some ([.str s], sb ls a) := by
  obtain ⟨x5, q5, g5⟩ := some10_ok fu n ls at_ [[.str ⟨#[105, 122, 122]⟩], [.str ⟨#[]⟩], [.str ⟨#[65]⟩]] [⟨#[105, 122, 122]⟩, ⟨#[]⟩, ⟨#[65]⟩] rfl h0 (by omega) (by simp) (by simp)
  obtain ⟨x15, q15, g15⟩ := some10_ok fu n ls (at_ + 1) [[.str ⟨#[105, 122, 122]⟩], [.str ⟨#[]⟩], [.str ⟨#[65]⟩]] [⟨#[105, 122, 122]⟩, ⟨#[]⟩, ⟨#[65]⟩] rfl (by omega) (by omega) (by simp) (by simp)
  obtain ⟨b, g6⟩ := Flip_ok fu n ls at_ 10 h0 (by omega)
  obtain ⟨x20, h20, g7⟩ := Next_ok fu (n + 1) ls (at_ + 1) (l.length : Nat) (by omega) (by omega)
  unfold sb at *
  rw [chasemake_Stream_AnyId_eq, List.length_map, cnd_decide]
  by_cases h : (l.length : Int) = 0
  · rw [if_pos h, g5, skS_some]
    exact ⟨x5, _, by omega, by omega, rfl⟩
  · have h20 := h20 (by omega) (by omega)
    obtain ⟨q, rfl⟩ : ∃ q : Nat, x20 = q := ⟨x20.toNat, by omega⟩
    have hq : l[q]? = some l[q] := List.getElem?_eq_getElem (by omega)
    rw [if_neg h, g6, skB_some]
    cases b
    · rw [cnd_false, g7, skI_some, rdId hq]
      exact ⟨l[q].id, _, by omega, by omega, rfl⟩
    · rw [cnd_true, g15, skS_some]
      exact ⟨x15, _, by omega, by omega, rfl⟩
end Go.Pv
/- Chapter 1: whole families, and the law ItemWholes. -/
namespace Go.Pv
open Go Go.Proofs

section
variable {α : Type}
def boolM (b : Bool) : MV := .bool b
theorem mgB_smap (M : List (ByteArray × Bool)) (k : ByteArray) (K : Bool → Option α) : mgE (smap boolM M) (.str k) (.bool false) (fun _ m => dB m K) = K ((aget M k).getD false) := by
  rw [mgE_smap]
  cases aget M k <;> rfl
end
def topId (l : List Item) (id : ByteArray) : ByteArray := match itm l id with
  | some x => (topF (itm l) 5 x).id
  | none => ⟨#[]⟩
def inF (l : List Item) : List ByteArray → List (ByteArray × Bool) → List (ByteArray × Bool)
  | [], V => V
  | id :: r, V => inF l r (aset V (topId l id) true)
theorem inF_get (l : List Item) : ∀ (ids : List ByteArray) (V : List (ByteArray × Bool)) (k : ByteArray), aget (inF l ids V) k = if (ids.any fun id => decide (topId l id = k)) = true then some true else aget V k
  | [], V, k => rfl
  | id :: r, V, k => by
    rw [inF, inF_get l r _ k, List.any_cons, aget_aset]
    by_cases h : topId l id = k
    · rw [decide_eq_true h, Bool.true_or, if_pos h.symm]
      split <;> rfl
    · rw [decide_eq_false h, Bool.false_or, show (if k = topId l id then some true else aget V k) = aget V k from if_neg (fun e => h e.symm)]
/-- The families that have one of some Ids. -/
def wholeW (l : List Item) (ids : List ByteArray) : List ByteArray := (kidI l ⟨#[]⟩).flatMap fun t => if (ids.any fun id => decide (topId l id = t.id)) = true then idsI (belI l 4 t) else []
theorem Whole_L2 (fu n : Nat) (l : List Item) (hT : Tree l) (hl : l.length ≤ 2000) (hfu : 1000000 ≤ fu) (V : List (ByteArray × Bool)) (ts : List Item) (hts : ∀ t ∈ ts, t ∈ kidI l ⟨#[]⟩) (htl : ts.length ≤ 2000) : ∀ (m i k : Nat) (v : List ByteArray), i + m = ts.length → m < k → v.length ≤ 2000 * i →
    intake_Whole_L2 fu (n + 5) k (smap boolM V) (strs v) (strs (idsI ts)) (ts.length : Nat) (i : Nat) (smap itemM (byIdL l)) (smap listM (kmF l [])) (strs (idsI (kidI l ⟨#[]⟩))) = some ([.list (strs (v ++ (ts.drop i).flatMap fun t => if (aget V t.id).getD false = true then idsI (belI l 4 t) else [])), .int .i64 0], [])
  | m, i, 0, v, hi, hk, hv => by omega
  | 0, i, k + 1, v, hi, hk, hv => by
    rw [intake_Whole_L2_eq, cnd_decide, if_neg (by omega), List.drop_of_length_le (by omega)]; simp
  | m + 1, i, k + 1, v, hi, hk, hv => by
    have hlt : i < ts.length := by omega
    obtain ⟨h1, h2⟩ := kidI_mem.1 (hts ts[i] (List.getElem_mem hlt))
    have hb := below_ok fu n l hT hl hfu 4 ts[i] h1 (by omega) (by simp [itU])
    have hbl := hT.bel_len 4 h1
    unfold treC at hb
    have hid : i < (idsI ts).length := by rw [idsI_len]; exact hlt
    have hix : (idsI ts)[i] = ts[i].id := by simp [idsI]
    rw [intake_Whole_L2_eq, cnd_decide, if_pos (by omega), rdStrs hid, hix, gK_smap, mgB_smap, i64s (by omega), List.drop_eq_getElem_cons hlt, List.flatMap_cons]
    cases h : (aget V ts[i].id).getD false with
    | true =>
      rw [cnd_true, hb, rO_some, wid_strs, sB_true, gL_pos (by rw [strs_len, strs_len, idsI_len]; omega), ← strs_app, Whole_L2 fu n l hT hl hfu V ts hts htl m (i + 1) k (v ++ idsI (belI l 4 ts[i])) (by omega) (by omega) (by rw [List.length_append, idsI_len]; omega), if_pos rfl, List.append_assoc]
    | false =>
      rw [cnd_false, Whole_L2 fu n l hT hl hfu V ts hts htl m (i + 1) k v (by omega) (by omega) (by omega), if_neg (by decide), List.nil_append]
theorem Whole_L1 (fu n : Nat) (l : List Item) (hT : Tree l) (hl : l.length ≤ 2000) (hfu : 1000000 ≤ fu) (ids : List ByteArray) (hids : ids.length ≤ 100000) : ∀ (m i k : Nat) (V : List (ByteArray × Bool)), i + m = ids.length → m < k →
    intake_Whole_L1 fu (n + 1) k (smap boolM V) (strs ids) (ids.length : Nat) (i : Nat) (smap itemM (byIdL l)) (smap listM (kmF l [])) (strs (idsI (kidI l ⟨#[]⟩))) = if ((ids.drop i).all fun id => (itm l id).isSome) = true then intake_Whole_L2 fu (n + 1) fu (smap boolM (inF l (ids.drop i) V)) [] (strs (idsI (kidI l ⟨#[]⟩))) ((kidI l ⟨#[]⟩).length : Nat) (0 : Int) (smap itemM (byIdL l)) (smap listM (kmF l [])) (strs (idsI (kidI l ⟨#[]⟩))) else some ([.list [], .int .i64 8], [])
  | m, i, 0, V, hi, hk => by omega
  | 0, i, k + 1, V, hi, hk => by
    rw [intake_Whole_L1_eq, cnd_decide, if_neg (by omega), List.drop_of_length_le (by omega), strs_len, idsI_len]; rfl
  | m + 1, i, k + 1, V, hi, hk => by
    have hlt : i < ids.length := by omega
    rw [intake_Whole_L1_eq, cnd_decide, if_pos (by omega), rdStrs hlt, gK_smap, mgItem, byId_get hT.dist, i64s (by omega), List.drop_eq_getElem_cons hlt, List.all_cons, inF]
    cases e : itm l ids[i] with
    | none => rfl
    | some x =>
      obtain ⟨h1, h2⟩ := itm_id e
      have ht := top_ok fu n l hT hfu x h1
      unfold treC at ht
      rw [h2] at ht
      have hti : topId l ids[i] = (topF (itm l) 5 x).id := by unfold topId; rw [e]
      rw [Option.isSome_some, Bool.not_true, cnd_false, ht, rS_some, gK_smap, Bool.true_and, hti]
      have e2 := mset_smap boolM V (topF (itm l) 5 x).id true
      have e2 : mset (smap boolM V) (.str (topF (itm l) 5 x).id) (.bool true) = smap boolM (aset V (topF (itm l) 5 x).id true) := e2
      rw [e2]
      exact Whole_L1 fu n l hT hl hfu ids hids m (i + 1) k _ (by omega) (by omega)
def wholeE (l : List Item) (ids : List ByteArray) : Int := if itemsE l = 0 then (if (ids.all fun id => (itm l id).isSome) = true then 0 else 8) else itemsE l
theorem Whole_ok (fu n : Nat) (l : List Item) (ids : List ByteArray) (hids : ids.length ≤ 100000) (hfu : 1000000 ≤ fu) : ev fu (n + 10) 35 [.list (l.map itemC), .list (strs ids)] [] = some ([.list (if wholeE l ids = 0 then strs (wholeW l ids) else []), .int .i64 (wholeE l ids)], []) := by
  have hc := Check_ok fu (n + 2) l hfu
  unfold wholeE
  rw [intake_Whole_eq, hc, rI_some]
  by_cases h : itemsE l = 0
  · have hT := tree_of h
    have hl := itemsE_len h
    have ht := tops_len l
    rw [idsI_len] at ht
    have h1 := Whole_L1 fu (n + 8) l hT hl hfu ids hids ids.length 0 fu [] (by omega) (by omega)
    rw [List.drop_zero] at h1
    rw [decide_eq_true h, Bool.not_true, cnd_false, newTree_ok fu (n + 7) l (by omega) hfu, unTree, strs_len, if_pos h]
    refine h1.trans ?_
    cases ha : (ids.all fun id => (itm l id).isSome) with
    | true =>
      have h2 := Whole_L2 fu (n + 4) l hT hl hfu (inF l ids []) (kidI l ⟨#[]⟩) (fun t ht => ht) (by omega) (kidI l ⟨#[]⟩).length 0 fu [] (by omega) (by omega) (by simp)
      have e : (kidI l ⟨#[]⟩).flatMap (fun t => if (aget (inF l ids []) t.id).getD false = true then idsI (belI l 4 t) else []) = wholeW l ids := by
        unfold wholeW
        apply flatMap_congr'
        intro t ht
        rw [inF_get]
        cases (ids.any fun id => decide (topId l id = t.id)) <;> rfl
      rw [if_pos rfl, if_pos rfl, if_pos rfl]
      refine h2.trans ?_
      rw [List.drop_zero, List.nil_append, e]
    | false => rfl
  · rw [decide_eq_false h, Bool.not_false, cnd_true, if_neg h, if_neg h]
/-! ### The reference -/
theorem IndexFuncS_ok (fu n : Nat) (g : FuncId) (c : List MV) (p : ByteArray → Bool) (hc : npL c = true) (hf : ∀ a, ev fu n g ([.str a] ++ c) [] = some ([.bool (p a)], [])) (l : List ByteArray) (hl : l.length ≤ 400000) (hfu : 1000000 ≤ fu) :
    ev fu (n + 1) 120 [.list (strs l), .fn g c] [] = some ([.int .i64 (fIx p 0 l)], []) := by
  have h := find_loop l p (fun k i => slices_IndexFunc_Sstring_string_L1 fu n k (strs l) g c (l.length : Nat) i)
    (fun k => by rw [slices_IndexFunc_Sstring_string_L1_eq, cnd_decide, if_neg (by omega)])
    (fun k i hi => by
      have h1 := hf l[i]
      have h2 : npL ([.str l[i]] ++ c) = true := by rw [npL_append, hc]; rfl
      rw [slices_IndexFunc_Sstring_string_L1_eq, cnd_decide, if_pos (by omega), rdStrs hi, npG_pos h2, h1, rB_some, i64s (by omega)]
      cases p l[i] <;> rfl) l.length 0 fu (by omega) (by omega)
  rw [slices_IndexFunc_Sstring_string_eq, strs_len]
  exact h
theorem ContainsFuncS_ok (fu n : Nat) (g : FuncId) (c : List MV) (p : ByteArray → Bool) (hc : npL c = true) (hf : ∀ a, ev fu n g ([.str a] ++ c) [] = some ([.bool (p a)], [])) (l : List ByteArray) (hl : l.length ≤ 400000) (hfu : 1000000 ≤ fu) :
    ev fu (n + 2) 89 [.list (strs l), .fn g c] [] = some ([.bool (l.any p)], []) := by
  have hnp : npL [.list (strs l), .fn g c] = true := by simp [hc]
  rw [slices_ContainsFunc_Sstring_string_eq, npG_pos hnp, IndexFuncS_ok fu n g c p hc hf l hl hfu, rI_some, fIx_any]
def hitF (ids : List ByteArray) (f : ByteArray × List ByteArray) : Bool := f.2.any fun x => ids.any fun y => decide (x = y)
theorem WholeOf_L1 (fu n : Nat) (ids : List ByteArray) (hids : ids.length ≤ 100000) (F : List (ByteArray × List ByteArray)) (hF : F.length ≤ 2000) (hf : ∀ f ∈ F, f.2.length ≤ 2000) (hfu : 1000000 ≤ fu) : ∀ (m i k : Nat) (v : List ByteArray), i + m = F.length → m < k → v.length ≤ 2000 * i →
    chaseref2_WholeOf_L1 fu (n + 5) k (strs ids) (strs v) (F.map famLC) (F.length : Nat) (i : Nat) = some ([.ref 0], [some (.row false 1 (strs (v ++ (F.drop i).flatMap fun f => if hitF ids f = true then f.2 else [])) [])])
  | m, i, 0, v, hi, hk, hv => by omega
  | 0, i, k + 1, v, hi, hk, hv => by
    rw [chaseref2_WholeOf_L1_eq, cnd_decide, if_neg (by omega), List.drop_of_length_le (by omega)]; simp
  | m + 1, i, k + 1, v, hi, hk, hv => by
    have hlt : i < F.length := by omega
    have hm := hf F[i] (List.getElem_mem hlt)
    have hcf := ContainsFuncS_ok fu (n + 3) 90 [.cptr [.list (strs ids)] 0] (fun x => ids.any fun y => decide (x = y)) rfl (fun a => by
      show ev fu (n + 3) 90 [.str a, .cptr [.list (strs ids)] 0] [] = _
      rw [chaseref2_WholeOf_1_eq]
      simp only [cel_zero, dL_list]
      rw [ContainsS_ok fu n ids a (by omega) hfu, rB_some]) F[i].2 (by omega) hfu
    rw [chaseref2_WholeOf_L1_eq, cnd_decide, if_pos (by omega), rdFam hlt, hcf, rB_some, i64s (by omega), List.drop_eq_getElem_cons hlt, List.flatMap_cons]
    show cnd (hitF ids F[i]) _ _ = _
    cases h : hitF ids F[i] with
    | true => rw [cnd_true, wid_strs, sB_true, gL_pos (by rw [strs_len, strs_len]; omega), ← strs_app, WholeOf_L1 fu n ids hids F hF hf hfu m (i + 1) k (v ++ F[i].2) (by omega) (by omega) (by rw [List.length_append]; omega), if_pos rfl, List.append_assoc]
    | false => rw [cnd_false, WholeOf_L1 fu n ids hids F hF hf hfu m (i + 1) k v (by omega) (by omega) (by omega), if_neg (by decide), List.nil_append]
theorem whole_same {l : List Item} (hT : Tree l) (ids : List ByteArray) (ha : ∀ id ∈ ids, ∃ x, itm l id = some x) : (famsI l).flatMap (fun f => if hitF ids f = true then f.2 else []) = wholeW l ids := by
  unfold famsI wholeW
  rw [List.flatMap_map]
  apply flatMap_congr'
  intro t ht
  have key : hitF ids (famI l t) = ids.any fun id => decide (topId l id = t.id) := by
    rw [Bool.eq_iff_iff]
    unfold hitF
    rw [List.any_eq_true, List.any_eq_true]
    constructor
    · rintro ⟨s, hs, h⟩
      obtain ⟨y, hy, rfl⟩ := List.mem_map.1 hs
      obtain ⟨id, hid, h⟩ := List.any_eq_true.1 h
      have h := of_decide_eq_true h
      obtain ⟨h1, h2⟩ := (hT.below_top ht).1 hy
      refine ⟨id, hid, decide_eq_true ?_⟩
      unfold topId
      rw [← h, hT.fam.get y h1]
      simp only
      rw [h2]
    · rintro ⟨id, hid, h⟩
      have h := of_decide_eq_true h
      obtain ⟨x, hx⟩ := ha id hid
      obtain ⟨h1, h2⟩ := itm_id hx
      unfold topId at h
      rw [hx] at h
      simp only at h
      have e : topF (itm l) 5 x = t := by
        have h3 := hT.fam.get _ (kidI_mem.1 (hT.top_is h1).1).1
        rw [h, hT.fam.get t (kidI_mem.1 ht).1] at h3
        cases h3; rfl
      have hb := (hT.top_is h1).2
      rw [e] at hb
      exact ⟨x.id, List.mem_map.2 ⟨x, hb, rfl⟩, List.any_eq_true.2 ⟨id, hid, decide_eq_true h2⟩⟩
  rw [key]; rfl
theorem WholeOf_ok (fu n : Nat) (l : List Item) (hT : Tree l) (hl : l.length ≤ 12) (ids : List ByteArray) (hids : ids.length ≤ 100000) (ha : ∀ id ∈ ids, ∃ x, itm l id = some x) (hfu : 1000000 ≤ fu) : ev fu (n + 11) 37 [.list (l.map itemC), .list (strs ids)] [] = some ([.ref 0], [some (.row false 1 (strs (wholeW l ids)) [])]) := by
  obtain ⟨q1, q2⟩ := famsI_len hT
  have h := WholeOf_L1 fu (n + 5) ids hids (famsI l) (by omega) (fun f hf => by have := q2 f hf; omega) hfu (famsI l).length 0 fu [] (by omega) (by omega) (by simp)
  rw [List.drop_zero, List.nil_append, whole_same hT ids ha] at h
  rw [chaseref2_WholeOf_eq, FamiliesOf_ok fu n l hT hl hfu, unDeep, shLL_fam, List.length_map]
  exact h
/-! ### The law -/
def fltW (l : List Item) : Int → List ByteArray → Int
  | e, [] => e
  | e, id :: r => fltW l (if e = 0 then (if (itm l id).isSome = true then 0 else 8) else e) r
theorem fltW_ne (l : List Item) : ∀ (ids : List ByteArray) (e : Int), e ≠ 0 → fltW l e ids = e
  | [], e, h => rfl
  | id :: r, e, h => by rw [fltW, if_neg h, fltW_ne l r e h]
theorem fltW_eq (l : List Item) : ∀ (ids : List ByteArray), fltW l 0 ids = if (ids.all fun id => (itm l id).isSome) = true then 0 else 8
  | [] => rfl
  | id :: r => by
    rw [fltW, if_pos rfl, List.all_cons]
    cases (itm l id).isSome with
    | true => rw [if_pos rfl, Bool.true_and]; exact fltW_eq l r
    | false => rw [if_neg (by decide), fltW_ne l r 8 (by decide)]; rfl
theorem wholeE_flt (l : List Item) (ids : List ByteArray) : fltW l (itemsE l) ids = wholeE l ids := by
  unfold wholeE
  by_cases h : itemsE l = 0
  · rw [if_pos h, h, fltW_eq]
  · rw [if_neg h, fltW_ne l ids _ h]
theorem ItemWholes_L2 (fu n : Nat) (l : List Item) (hl : l.length ≤ 400000) (ids : List ByteArray) (hids : ids.length ≤ 100000) (w : List (List MV)) (v7 : Int) (hfu : 1000000 ≤ fu) : ∀ (m i k : Nat) (e : Int), i + m = ids.length → m < k →
    chaselaw2_ItemWholes_L2 fu (n + 4) k (l.map itemC) (strs ids) w v7 e (strs ids) (ids.length : Nat) (i : Nat) = chaselaw2_ItemWholes_L2 fu (n + 4) 1 (l.map itemC) (strs ids) w v7 (fltW l e (ids.drop i)) (strs ids) (ids.length : Nat) (ids.length : Nat)
  | m, i, 0, e, hi, hk => by omega
  | 0, i, k + 1, e, hi, hk => by
    have : i = ids.length := by omega
    subst this
    rw [List.drop_of_length_le (Nat.le_refl _), chaselaw2_ItemWholes_L2_eq, chaselaw2_ItemWholes_L2_eq]; simp only [Int.lt_irrefl, decide_false, cnd_false, fltW]; rfl
  | m + 1, i, k + 1, e, hi, hk => by
    have hlt : i < ids.length := by omega
    have ih := ItemWholes_L2 fu n l hl ids hids w v7 hfu m (i + 1) k
    rw [chaselaw2_ItemWholes_L2_eq, cnd_decide, if_pos (by omega), rdStrs hlt, cnd_decide, has_ok fu n l hl ids[i] hfu, rB_some, i64s (by omega), List.drop_eq_getElem_cons hlt, fltW]
    by_cases h : e = 0
    · rw [if_pos h, if_pos h]
      cases (itm l ids[i]).isSome with
      | true => rw [Bool.not_true, cnd_false, if_pos rfl, h]; exact ih 0 (by omega) (by omega)
      | false => rw [Bool.not_false, cnd_true, if_neg (by decide)]; exact ih 8 (by omega) (by omega)
    · rw [if_neg h, if_neg h]
      exact ih e (by omega) (by omega)
theorem ItemWholes_L1 (fu n : Nat) (l : List Item) (hl : l.length ≤ 100000) (hS : ∀ x ∈ l, ItS x) (ls : List Int) (N : Nat) (hN : N ≤ 10) (R : Out) (hR : ∀ (k : Nat) (ids : List ByteArray) (a : Int), ids.length ≤ N → chaselaw2_ItemWholes_L1 fu (n + 4) (k + 1) (l.map itemC) (strs ids) (N : Nat) (N : Nat) (ls.map i1) a = R) : ∀ (m i k : Nat) (v : List ByteArray) (at_ : Int), i + m = N → m < k → v.length ≤ i → 0 ≤ at_ → at_ + 2 * m < 1000000000000000000 →
    chaselaw2_ItemWholes_L1 fu (n + 4) k (l.map itemC) (strs v) (N : Nat) (i : Nat) (ls.map i1) at_ = R
  | m, i, 0, v, at_, hi, hk, hv, h0, h1 => by omega
  | 0, i, k + 1, v, at_, hi, hk, hv, h0, h1 => by
    have : i = N := by omega
    subst this
    exact hR k v at_ hv
  | m + 1, i, k + 1, v, at_, hi, hk, hv, h0, h1 => by
    obtain ⟨s, b, b1, b2, g⟩ := AnyId_ok fu n l hl hS ls at_ h0 (by omega)
    unfold sb at g
    rw [chaselaw2_ItemWholes_L1_eq, cnd_decide, if_pos (by omega), g, skS_some, gL_pos (by rw [strs_len]; simp; omega), ← strs_one, ← strs_app, i64s (by omega)]
    exact ItemWholes_L1 fu n l hl hS ls N hN R hR m (i + 1) k (v ++ [s]) b (by omega) (by omega) (by simp; omega) b1 (by omega)
theorem ItemWholes_ok (fu n : Nat) (ls : List Int) (hfu : 1000000 ≤ fu) : ev fu (n + 30) 6 [.list (ls.map i1)] [] = some ([.bool true], []) := by
  obtain ⟨c, hc, g1⟩ := Range_ok fu (n + 26) ls 0 1 10 (by omega) (by omega) (by omega) (by omega) (by omega)
  obtain ⟨N, rfl⟩ : ∃ N : Nat, c = N := ⟨c.toNat, by omega⟩
  obtain ⟨l, a, p1, p2, p3, p4, g2⟩ := Items_ok fu (n + 20) hfu ls (0 + 1) N (by omega) (by omega) (by omega)
  obtain ⟨c2, hc2, g3⟩ := Range_ok fu (n + 26) ls a 0 4 p3 (by omega) (by omega) (by omega) (by omega)
  obtain ⟨N2, rfl⟩ : ∃ N2 : Nat, c2 = N2 := ⟨c2.toNat, by omega⟩
  have g10 := taken_ok fu (n + 9) hfu
  have hR : ∀ (k : Nat) (ids : List ByteArray) (b : Int), ids.length ≤ N2 → chaselaw2_ItemWholes_L1 fu (n + 25 + 4) (k + 1) (l.map itemC) (strs ids) (N2 : Nat) (N2 : Nat) (ls.map i1) b = some ([.bool true], []) := by
    intro k ids b hids
    have g4 := Whole_ok fu (n + 19) l ids (by omega) hfu
    have g5 := ItemsFault_ok fu (n + 22) l hfu
    have g6 := ItemWholes_L2 fu (n + 25) l (by omega) ids (by omega) (if wholeE l ids = 0 then strs (wholeW l ids) else []) (wholeE l ids) hfu ids.length 0 fu (itemsE l) (by omega) (by omega)
    rw [List.drop_zero, wholeE_flt] at g6
    rw [chaselaw2_ItemWholes_L1_eq, cnd_decide, if_neg (by omega), g4]
    simp only [callE_some', unXN_nil, unC_cons, dL_list, dI_int, unN_nil, g5, rI_some, strs_len]
    refine g6.trans ?_
    rw [chaselaw2_ItemWholes_L2_eq, cnd_decide, if_neg (by omega)]
    by_cases h : wholeE l ids = 0
    · obtain ⟨h0, ha⟩ : itemsE l = 0 ∧ ∀ id ∈ ids, ∃ x, itm l id = some x := by
        unfold wholeE at h
        split at h
        · rename_i h0
          split at h
          · rename_i ha
            exact ⟨h0, fun id hid => Option.isSome_iff_exists.1 (List.all_eq_true.1 ha id hid)⟩
          · cases h
        · rename_i h0; exact absurd h h0
      have hT := tree_of h0
      have g7 := WholeOf_ok fu (n + 18) l hT (by omega) ids (by omega) ha hfu
      have hwl : (wholeW l ids).length ≤ 400000 := by
        have e : (wholeW l ids).length ≤ ((kidI l ⟨#[]⟩).flatMap (belI l 4)).length := by
          unfold wholeW
          induction kidI l ⟨#[]⟩ with
          | nil => simp
          | cons t ts ih =>
            rw [List.flatMap_cons, List.flatMap_cons, List.length_append, List.length_append]
            split
            · rw [idsI_len]; omega
            · simp only [List.length_nil]; omega
        obtain ⟨q1, q2⟩ := hT.all_order
        have : ((kidI l ⟨#[]⟩).flatMap (belI l 4)).length ≤ l.length := nodup_len _ _ (q1.imp fun {a b} h e => by subst e; exact wlt_irr _ h) (fun y hy => (q2 y).1 hy)
        omega
      have g8 := EqualS_same fu (n + 28) (wholeW l ids) hwl hfu
      rw [h, if_pos rfl]
      simp only [decide_true, Bool.not_true, cnd_false, cnd_true, g7, rO_some, g8, rB_some, g10]
    · rw [if_neg h]
      simp only [decide_eq_false h, decide_true, Bool.not_false, cnd_true, List.length_nil, show decide (((0 : Nat) : Int) = 0) = true from rfl, g10, rB_some]
  have h1 := ItemWholes_L1 fu (n + 25) l (by omega) p2 ls N2 (by omega) _ hR N2 0 fu [] (a + 1) (by omega) (by omega) (by simp) (by omega) (by omega)
  unfold sb at g1 g2 g3
  rw [chaselaw2_ItemWholes_eq, g1, skI_some, g2, skR_eq, g3, skI_some]
  exact h1
theorem ItemWholes_spec (ls : List Int) : SpecB Tryz.prog 6 [ints ls] [] [.bool true] [] := law_spec (ItemWholes_ok 1000000 0 ls (Nat.le_refl _))
end Go.Pv
/- A law's call, with the world's shape and what is listed. -/
namespace Go
variable {H : Type} {enc : TypeId × Value → H}

theorem handed_and_shaped {a : Assume} {C : Checked} {os : Os} {f : FuncId} {fn : Func} {s : ChangeSpec} {conds : List PathCond} {apart fresh handsOn again : Bool} {X : World → Array Value → Prop}
    (hX : ∀ (w w' : World) (args : Array Value), w.heap = w'.heap → X w args → X w' args)
    (own : ownKnob C.prog.godebug = none) (started : os.Started) (noInit : C.prog.inits.idxOf? f = none) (hfn : C.prog.funcs[f]? = some fn)
    (witness : ∃ (w : World) (tape : Tape) (i : Input), w.os = os ∧ (w.forCall tape i).Shaped C.prog ∧ i.vars = [] ∧ Input.okWide C.prog (w.forCall tape i) .any w.heap.size f i ∧
      ((s.pre enc C.prog fn conds apart (w.forCall tape i).memory i.args ∧ X (w.forCall tape i).memory i.args) ∧ sizedMet enc C.prog fn (OpenSpec.ofChange s) apart (w.forCall tape i).memory i.args) ∧ a.holds C.prog (lone (Frame.enter C.prog f i.args .normal) [] (w.forCall tape i)))
    (contract : ∀ (W : World) (base : Nat) (args : Array Value) (ds gs : List (DataW H)) (before : List MemPlace),
      (∀ (j : Nat) t v, fn.params[j]? = some t → args[j]? = some v → Value.okWide C.prog W .any base t v) →
      DataW.Whole enc C.prog fn.params.toList s.vars apart W args.toList ds gs before →
      conds.all (PathCond.test C.prog ⟨fn.params.toList, ds, s.plain.varTypes C.prog, gs⟩) = true →
      (DataW.weightsEach C.prog (fn.params.toList ++ s.plain.varTypes C.prog) (ds ++ gs)).all (· ≤ reachBytes) = true → X W args → W.ShapedOpen C.prog →
      a.holds C.prog (lone (Frame.enter C.prog f args .normal) [] W) →
      Calls C.prog f args W fun e W' => ∃ v, e = .returned v ∧ s.post enc C.prog fn apart fresh handsOn again W args v W') :
    ReturnsInHanded a C os f .any (fun w args => (s.pre enc C.prog fn conds apart w args ∧ X w args) ∧ sizedMet enc C.prog fn (OpenSpec.ofChange s) apart w args) (s.post enc C.prog fn apart fresh handsOn again) := by
  refine returnsInHanded_of_calls own started noInit witness ?_
  intro w tape i _ hsh _ hok hpre hholds
  obtain ⟨_, _, _, fn', hfn', _, _, _, _, hval⟩ := hok
  have e : fn' = fn := Option.some.inj (hfn'.symm.trans hfn)
  subst e
  obtain ⟨⟨⟨ds, gs, before, hw, hc⟩, hx⟩, hz⟩ := hpre
  have hw' := DataW.Whole.of_heap (w' := w.forCall tape i) (by rfl) hw
  refine (contract (w.forCall tape i) w.heap.size i.args ds gs before hval hw' hc (hz.weights hw) (hX _ _ _ (by rfl) hx) hsh hholds).mono fun e W' ⟨v, he, hp⟩ => ?_
  subst he
  exact ChangeSpec.post_blind hp
end Go
