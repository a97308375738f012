/- AllocateOf. -/
import Derived.Test.YtoakchnegkmepaaSI
set_option linter.unusedSimpArgs false
set_option linter.unusedVariables false
set_option maxRecDepth 100000
namespace Go.Pv
open Go Go.Proofs

theorem ord_sorted (many S : Int) (xs : List Int) : (ord many S xs).Pairwise (bef (rmd many S xs)) := by
  unfold ord
  rw [List.pairwise_reverse]
  exact srt_sorted (m := rmd many S xs) (fun a b => by omega) (rng xs.length) [] List.Pairwise.nil (by simp) (rng_sorted _)
theorem ord_mem (many S : Int) (xs : List Int) {z : Int} : z ∈ ord many S xs ↔ 0 ≤ z ∧ z < (xs.length : Int) := by
  unfold ord
  rw [List.mem_reverse, srt_mem]
  simp [rng_mem]
theorem ord_len (many S : Int) (xs : List Int) : (ord many S xs).length = xs.length := by simp [ord, srt_len, rng_len]

theorem of_L3 (fu n : Nat) (m : Int → Int) (hm : ∀ a, 0 ≤ m a) (hfu : 1000000 ≤ fu) (N left : Nat) (hN : N < 20) : ∀ (k t : Nat) (k1 : Nat) (L : List Int) (o r : List Int) (b : Int), t + k = left → k < k1 → k ≤ L.length → o.length = N → r.length = N → L.Pairwise (bef m) → (∀ z ∈ L, 0 ≤ z ∧ z < (N : Int)) →
    (∀ j : Nat, j < N → r[j]? = some (if (j : Int) ∈ L then m j else -1)) → (∀ v ∈ o, 0 ≤ v ∧ v ≤ b) → b + k ≤ 1000000000 → left ≤ 1000000 →
    chaseref2_AllocateOf_L3 fu (n + 1) k1 (o.map i1) (r.map i1) (left : Nat) t = some ([.ref 0], [some (.row false 1 ((incs o (L.take k)).map i1) [])])
  | k, t, 0, L, o, r, b, h1, h2, _, _, _, _, _, _, _, _, _ => by omega
  | 0, t, k1 + 1, L, o, r, b, h1, h2, h3, ho, hr, hL, hz, hrest, hb, hbk, hle => by
    rw [chaseref2_AllocateOf_L3_eq, cnd_decide, if_neg (by omega)]; rfl
  | k + 1, t, k1 + 1, [], o, r, b, h1, h2, h3, ho, hr, hL, hz, hrest, hb, hbk, hle => by simp at h3
  | k + 1, t, k1 + 1, z :: L, o, r, b, h1, h2, h3, ho, hr, hL, hz, hrest, hb, hbk, hle => by
    have hzi := hz z (by simp)
    have hlt : z.toNat < o.length := by omega
    have ho' : o[z.toNat]? = some o[z.toNat] := List.getElem?_eq_getElem hlt
    have hbo := hb _ (List.getElem_mem hlt)
    have ed : o.getD z.toNat 0 = o[z.toNat] := by simp [List.getD, hlt]
    have hr' : r[z.toNat]? = some r[z.toNat] := List.getElem?_eq_getElem (by omega)
    cases r with
    | nil => simp at hr; omega
    | cons r0 rest =>
      have hpick := pick_next hm hL hz hr hrest
      have hlo : z.toNat < (o.map i1).length := by simpa using hlt
      have hlr : z.toNat < ((r0 :: rest).map i1).length := by rw [List.length_map]; omega
      rw [chaseref2_AllocateOf_L3_eq, cnd_decide, if_pos (by omega), Max_ok fu n r0 rest (by simp at hr; omega) hfu, rI_some, Index_ok fu n (r0 :: rest) _ (by omega) hfu, rI_some, hpick]
      rw [ixG_pos hzi.1 hlo, rdN_i1 ho']
      simp only [i1, cel_zero, dI_int]
      rw [ixG_pos hzi.1 hlo, rdN_i1 ho', ixG_pos hzi.1 hlr, rdN_i1 hr', w64 (by omega) (by omega), ovr_i1, ovr_i1, map_set_i1, map_set_i1, i64k (by omega)]
      have hp := List.pairwise_cons.1 hL
      have := of_L3 fu n m hm hfu N left hN k (t + 1) k1 L (inc1 o z) ((r0 :: rest).set z.toNat (-1)) (b + 1) (by omega) (by omega) (by simp at h3; omega) (by rw [inc1_len]; exact ho) (by simpa using hr) hp.2 (fun y hy => hz y (List.mem_cons_of_mem _ hy)) (fun j hj => by
        rw [List.getElem?_set]
        by_cases e : z.toNat = j
        · subst e
          rw [if_pos rfl, if_pos (by omega)]
          have : ¬ ((z.toNat : Nat) : Int) ∈ L := by
            rw [Int.toNat_of_nonneg hzi.1]
            intro hm'
            have := hp.1 z hm'
            unfold bef at this; omega
          rw [if_neg this]
        · rw [if_neg e, hrest j hj]
          have : ((j : Nat) : Int) ∈ z :: L ↔ ((j : Nat) : Int) ∈ L := by
            rw [List.mem_cons]
            constructor
            · rintro (q | q)
              · omega
              · exact q
            · exact .inr
          simp only [this]) (inc1_le hb hlt) (by omega) hle
      unfold inc1 at this
      rw [ed] at this
      rw [this]
      show _ = some ([MV.ref 0], [some (Ob.row false 1 ((incs (inc1 o z) (L.take k)).map i1) [])])
      unfold inc1
      rw [ed]

def rmT (many S x : Int) : Int := Int.tmod (many * x) S
theorem rmd_nn {many S : Int} {xs : List Int} (hm : 0 ≤ many) (hx : ∀ x ∈ xs, 0 ≤ x ∧ x ≤ 2000) (a : Int) : 0 ≤ rmd many S xs a := by
  unfold rmd
  refine Int.tmod_nonneg _ (Int.mul_nonneg hm ?_)
  by_cases h : a.toNat < xs.length
  · have e : xs.getD a.toNat 0 = xs[a.toNat] := by simp [List.getD, h]
    rw [e]; exact (hx _ (List.getElem_mem h)).1
  · have e : xs.getD a.toNat 0 = 0 := by simp [List.getD, List.getElem?_eq_none (show xs.length ≤ a.toNat by omega)]
    omega

theorem of_L2 (fu n : Nat) (xs : List Int) (many S : Int) (hl : xs.length < 20) (hfu : 1000000 ≤ fu) (hm : 0 ≤ many ∧ many ≤ 2000) (hS : 0 < S ∧ S ≤ 1000000) (hs : xs.sum = S) (hx : ∀ x ∈ xs, 0 ≤ x ∧ x ≤ 2000) : ∀ (m i k1 : Nat), i + m = xs.length → m < k1 →
    chaseref2_AllocateOf_L2 fu (n + 1) k1 many (((xs.take i).map (quo many S) ++ List.replicate m 0).map i1) (((xs.take i).map (rmT many S) ++ List.replicate m 0).map i1) S (many - ((xs.take i).map (quo many S)).sum) (xs.map i1) (xs.length : Nat) i =
      some ([.ref 0], [some (.row false 1 ((incs (xs.map (quo many S)) ((ord many S xs).take (lft many S xs).toNat)).map i1) [])])
  | m, i, 0, h, hk => by omega
  | 0, i, k1 + 1, h, hk => by
    have hi : i = xs.length := by omega
    subst hi
    have hb := lft_bnd hm hS.1 hs hx
    rw [chaseref2_AllocateOf_L2_eq, cnd_decide, if_neg (by omega), List.take_of_length_le (Nat.le_refl _), show many - (xs.map (quo many S)).sum = lft many S xs from rfl]
    simp only [List.replicate_zero, List.append_nil]
    have h3 := of_L3 fu n (rmd many S xs) (rmd_nn hm.1 hx) hfu xs.length (lft many S xs).toNat hl (lft many S xs).toNat 0 fu (ord many S xs) (xs.map (quo many S)) (xs.map (rmT many S)) 4000000 (by omega) (by omega) (by rw [ord_len]; omega) (by simp) (by simp) (ord_sorted _ _ _) (fun z hz => (ord_mem _ _ _).1 hz) (fun j hj => by
      rw [List.getElem?_map, List.getElem?_eq_getElem hj, if_pos ((ord_mem _ _ _).2 ⟨by omega, by omega⟩)]
      unfold rmT rmd
      simp [List.getD, hj]) (fun v hv => by
      obtain ⟨x, hxm, rfl⟩ := List.mem_map.1 hv
      have := quo_bnd hm hS.1 (hx x hxm); omega) (by omega) (by omega)
    rw [Int.toNat_of_nonneg hb.1] at h3
    exact h3
  | m + 1, i, k1 + 1, h, hk => by
    have hxi : xs[i]? = some xs[i] := List.getElem?_eq_getElem (by omega)
    have hb := hx xs[i] (List.getElem_mem _)
    have hq := quo_bnd hm hS.1 hb
    have hpl : ((xs.take i).map (quo many S)).length = i := by simp; omega
    have hpr : ((xs.take i).map (rmT many S)).length = i := by simp; omega
    have hsum := sum_bnd (l := (xs.take i).map (quo many S)) (b := 4000000) (fun v hv => by
      obtain ⟨x, hxm, rfl⟩ := List.mem_map.1 hv
      have := quo_bnd hm hS.1 (hx x (List.mem_of_mem_take hxm)); omega)
    rw [hpl] at hsum
    have e0 : (xs.take i).map (quo many S) ++ List.replicate (m + 1) 0 = (xs.take i).map (quo many S) ++ 0 :: List.replicate m 0 := by rw [List.replicate_succ]
    have e0r : (xs.take i).map (rmT many S) ++ List.replicate (m + 1) 0 = (xs.take i).map (rmT many S) ++ 0 :: List.replicate m 0 := by rw [List.replicate_succ]
    have g0 : ((xs.take i).map (quo many S) ++ 0 :: List.replicate m 0)[i]? = some 0 := by
      rw [List.getElem?_append_right (by omega), hpl]; simp
    have g0r : ((xs.take i).map (rmT many S) ++ 0 :: List.replicate m 0)[i]? = some 0 := by
      rw [List.getElem?_append_right (by omega), hpr]; simp
    have g1 : ((xs.take i).map (quo many S) ++ quo many S xs[i] :: List.replicate m 0)[i]? = some (quo many S xs[i]) := by
      rw [List.getElem?_append_right (by omega), hpl]; simp
    have hlen : ((((xs.take i).map (quo many S) ++ 0 :: List.replicate m 0)).map i1).length = xs.length := by simp; omega
    have hlenr : ((((xs.take i).map (rmT many S) ++ 0 :: List.replicate m 0)).map i1).length = xs.length := by simp; omega
    have hset : (((xs.take i).map (quo many S) ++ 0 :: List.replicate m 0).map i1).set i (i1 (quo many S xs[i])) = ((xs.take i).map (quo many S) ++ quo many S xs[i] :: List.replicate m 0).map i1 := by
      have := set_i1 ((xs.take i).map (quo many S)) (List.replicate m 0) 0 (quo many S xs[i])
      rw [hpl] at this; exact this
    have hsetr : (((xs.take i).map (rmT many S) ++ 0 :: List.replicate m 0).map i1).set i (i1 (rmT many S xs[i])) = ((xs.take i).map (rmT many S) ++ rmT many S xs[i] :: List.replicate m 0).map i1 := by
      have := set_i1 ((xs.take i).map (rmT many S)) (List.replicate m 0) 0 (rmT many S xs[i])
      rw [hpr] at this; exact this
    have hlen2 : ((((xs.take i).map (quo many S) ++ quo many S xs[i] :: List.replicate m 0)).map i1).length = xs.length := by simp; omega
    have hS0 : S ≠ 0 := by omega
    have wm : IntKind.i64.wrap (many * xs[i]) = many * xs[i] := w64 (by omega) (by omega)
    have wq : IntKind.i64.wrap (Int.tdiv (many * xs[i]) S) = quo many S xs[i] := by
      unfold quo at hq ⊢
      exact w64 (by omega) (by omega)
    have er : Int.tmod (many * xs[i]) S = rmT many S xs[i] := rfl
    rw [chaseref2_AllocateOf_L2_eq, cnd_decide, if_pos (by omega), rd_i1 hxi, gd_pos (i1_len _)]
    simp only [i1, cel_zero, dI_int, gd_pos hS0]
    rw [e0, e0r, hlen, hlenr, ixG_n (by omega), Int.toNat_natCast, rdN_i1 g0, ixG_n (by omega), rdN_i1 g0r, wm, wq, er, ovr_i1, ovr_i1, hset, hsetr, hlen2, ixG_n (by omega), rdN_i1 g1]
    simp only [i1, cel_zero, dI_int]
    rw [i64k (by omega)]
    have ts : xs.take (i + 1) = xs.take i ++ [xs[i]] := by rw [List.take_add_one, hxi]; rfl
    have e4 : (xs.take i).map (quo many S) ++ quo many S xs[i] :: List.replicate m 0 = (xs.take (i + 1)).map (quo many S) ++ List.replicate m 0 := by
      rw [ts, List.map_append, List.append_assoc]; rfl
    have e4r : (xs.take i).map (rmT many S) ++ rmT many S xs[i] :: List.replicate m 0 = (xs.take (i + 1)).map (rmT many S) ++ List.replicate m 0 := by
      rw [ts, List.map_append, List.append_assoc]; rfl
    have e5 : ((xs.take (i + 1)).map (quo many S)).sum = ((xs.take i).map (quo many S)).sum + quo many S xs[i] := by
      rw [ts, List.map_append, List.sum_append]; simp
    have hw : IntKind.i64.wrap (many - ((xs.take i).map (quo many S)).sum - quo many S xs[i]) = many - ((xs.take (i + 1)).map (quo many S)).sum := by
      rw [e5, w64 (by omega) (by omega)]; omega
    rw [hw, e4, e4r]
    exact of_L2 fu n xs many S hl hfu hm hS hs hx m (i + 1) k1 (by omega) (by omega)

theorem of_L1 (fu n : Nat) (xs : List Int) (many : Int) (a b : List (List MV)) (hl : xs.length ≤ 1000) (hx : ∀ x ∈ xs, 0 ≤ x ∧ x ≤ 2000) : ∀ (m i k1 : Nat) (acc : Int), i + m = xs.length → m < k1 → 0 ≤ acc ∧ acc ≤ 2000 * (i : Int) →
    chaseref2_AllocateOf_L1 fu n k1 (xs.map i1) many a b acc (xs.map i1) (xs.length : Nat) i = chaseref2_AllocateOf_L1 fu n 1 (xs.map i1) many a b (acc + (xs.drop i).sum) (xs.map i1) (xs.length : Nat) (xs.length : Nat)
  | m, i, 0, acc, h, hk, ha => by omega
  | 0, i, k1 + 1, acc, h, hk, ha => by
    have : i = xs.length := by omega
    subst this
    rw [List.drop_of_length_le (Nat.le_refl _), List.sum_nil, Int.add_zero, chaseref2_AllocateOf_L1_eq, show chaseref2_AllocateOf_L1 fu n 1 (xs.map i1) many a b acc (xs.map i1) (xs.length : Nat) (xs.length : Nat) = _ from chaseref2_AllocateOf_L1_eq fu n 0 _ _ _ _ _ _ _ _]
    simp only [Int.lt_irrefl, decide_false, cnd_false]
  | m + 1, i, k1 + 1, acc, h, hk, ha => by
    have hxi : xs[i]? = some xs[i] := List.getElem?_eq_getElem (by omega)
    have hb := hx xs[i] (List.getElem_mem _)
    rw [chaseref2_AllocateOf_L1_eq, cnd_decide, if_pos (by omega), rd_i1 hxi, gd_pos (i1_len _)]
    simp only [i1, cel_zero, dI_int]
    have := of_L1 fu n xs many a b hl hx m (i + 1) k1 (acc + xs[i]) (by omega) (by omega) (by omega)
    rw [i64k (by omega), w64 (by omega) (by omega), this, List.drop_eq_getElem_cons (show i < xs.length by omega), List.sum_cons, Int.add_assoc]

theorem sum_zero {xs : List Int} (h : ∀ x ∈ xs, 0 ≤ x) (hs : xs.sum ≤ 0) : xs = List.replicate xs.length 0 := by
  induction xs with
  | nil => rfl
  | cons x r ih =>
    have h1 := h x (by simp)
    have h2 : 0 ≤ r.sum := by
      clear ih hs
      induction r with
      | nil => simp
      | cons y q ihq =>
        have := h y (by simp)
        have := ihq (fun z hz => h z (by simp at hz ⊢; rcases hz with rfl | hz; exact .inl rfl; exact .inr (.inr hz)))
        rw [List.sum_cons]; omega
    rw [List.sum_cons] at hs
    have h3 : x = 0 := by omega
    rw [List.length_cons, List.replicate_succ, ← ih (fun z hz => h z (List.mem_cons_of_mem _ hz)) (by omega), h3]

theorem AllocateOf_ok (fu n : Nat) (xs : List Int) (many : Int) (hl : xs.length < 20) (hfu : 1000000 ≤ fu) (hm : 0 ≤ many ∧ many ≤ 2000) (hx : ∀ x ∈ xs, 0 ≤ x ∧ x ≤ 2000) :
    ev fu (n + 2) 66 [.list (xs.map i1), .int .i64 many] [] = some ([.ref 0], [some (.row false 1 ((allocN many xs).map i1) [])]) := by
  have hb := sum_bnd hx
  have ez : (List.replicate xs.length (0 : Int)).map i1 = List.replicate (Int.toNat ((xs.length : Nat) : Int)) ([.int .i64 (0 : Int)] : List MV) := by simp [i1]
  have h1 := of_L1 fu (n + 1) xs many ((List.replicate xs.length (0 : Int)).map i1) ((List.replicate xs.length (0 : Int)).map i1) (by omega) hx xs.length 0 fu 0 (by omega) (by omega) (by omega)
  rw [show ((0 : Nat) : Int) = 0 from rfl] at h1
  rw [chaseref2_AllocateOf_eq, List.length_map, gd_pos (by omega), gd_pos (by omega), ← ez, h1, Int.zero_add, List.drop_zero, chaseref2_AllocateOf_L1_eq fu (n + 1) 0]
  rw [cnd_decide, if_neg (by omega), cnd_decide, cnd_decide, List.length_map]
  unfold allocN
  by_cases h : xs.sum < many
  · rw [if_pos h, if_pos (by omega), Clone_ok fu n xs (by omega), rO_some]
  · rw [if_neg h]
    by_cases h0 : xs.sum = 0
    · rw [if_pos h0, if_pos (by omega), ← sum_zero (fun x hxm => (hx x hxm).1) (by omega)]
    · rw [if_neg h0]
      have h2 := of_L2 fu n xs many xs.sum hl hfu hm (by omega) rfl hx xs.length 0 fu (by omega) (by omega)
      simp only [List.take_zero, List.map_nil, List.nil_append, List.sum_nil, Int.sub_zero] at h2
      rw [show ((0 : Nat) : Int) = 0 from rfl] at h2
      rw [h2]
      by_cases he : xs.sum ≤ many
      · rw [if_pos he]
        have hs : many = xs.sum := by omega
        have eq : xs.map (quo many xs.sum) = xs := by
          conv => rhs; rw [← List.map_id xs]
          refine List.map_congr_left (fun x hxm => ?_)
          unfold quo
          rw [hs, Int.mul_tdiv_cancel_left _ h0]; rfl
        have el : (lft many xs.sum xs).toNat = 0 := by unfold lft; rw [eq]; omega
        rw [el, eq]; rfl
      · rw [if_neg he]
end Go.Pv
