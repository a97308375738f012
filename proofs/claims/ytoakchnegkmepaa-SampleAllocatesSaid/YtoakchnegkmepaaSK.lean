/- The law SampleAllocates. -/
import Derived.Test.YtoakchnegkmepaaSJ
set_option linter.unusedSimpArgs false
set_option linter.unusedVariables false
set_option maxRecDepth 100000
namespace Go.Pv
open Go Go.Proofs

def bad (x : Int) : Bool := !inB x 0 2000
theorem IndexFunc_L1 (fu n : Nat) (g : FuncId) (c : List MV) (P : Int → Bool) (hc : npL c = true) (hf : ∀ x, ev fu n g ([.int .i64 x] ++ c) [] = some ([.bool (P x)], [])) (xs : List Int) (hl : xs.length ≤ 100000) : ∀ (m i k1 : Nat), i + m = xs.length → m < k1 →
    ∃ j : Int, slices_IndexFunc_Sint_int_L1 fu n k1 (xs.map i1) g c (xs.length : Nat) i = some ([.int .i64 j], []) ∧ (decide (0 ≤ j) = (xs.drop i).any P)
  | m, i, 0, h, hk => by omega
  | 0, i, k1 + 1, h, hk => by
    refine ⟨-1, ?_, ?_⟩
    · rw [slices_IndexFunc_Sint_int_L1_eq, cnd_decide, if_neg (by omega)]
    · rw [List.drop_of_length_le (by omega)]; rfl
  | m + 1, i, k1 + 1, h, hk => by
    have hx : xs[i]? = some xs[i] := List.getElem?_eq_getElem (by omega)
    have e : ∀ K : Out, npG ([.int .i64 xs[i]] ++ c) K = K := fun K => npG_pos (by simpa using hc) K
    rw [slices_IndexFunc_Sint_int_L1_eq, cnd_decide, if_pos (by omega), rd_i1 hx, gd_pos (i1_len _)]
    simp only [i1, cel_zero, dI_int]
    rw [e, hf, rB_some, List.drop_eq_getElem_cons (show i < xs.length by omega), List.any_cons]
    cases hp : P xs[i] with
    | true => exact ⟨i, rfl, by simp⟩
    | false =>
      rw [cnd_false, i64k (by omega)]
      obtain ⟨j, h1, h2⟩ := IndexFunc_L1 fu n g c P hc hf xs hl m (i + 1) k1 (by omega) (by omega)
      exact ⟨j, h1, by rw [h2]; simp⟩
theorem ContainsFunc_ok (fu n : Nat) (g : FuncId) (c : List MV) (P : Int → Bool) (hc : npL c = true) (hf : ∀ x, ev fu n g ([.int .i64 x] ++ c) [] = some ([.bool (P x)], [])) (xs : List Int) (hl : xs.length ≤ 100000) (hfu : 1000000 ≤ fu) :
    ev fu (n + 2) 99 [.list (xs.map i1), .fn g c] [] = some ([.bool (xs.any P)], []) := by
  obtain ⟨j, h1, h2⟩ := IndexFunc_L1 fu n g c P hc hf xs hl xs.length 0 fu (by omega) (by omega)
  rw [show ((0 : Nat) : Int) = 0 from rfl] at h1
  rw [slices_ContainsFunc_Sint_int_eq, npG_pos (by simpa using hc), slices_IndexFunc_Sint_int_eq, List.length_map, h1, rI_some, h2, List.drop_zero]
theorem manyError_ok (fu n : Nat) (x : Int) : ev fu (n + 2) 101 [.int .i64 x] [] = some ([.int .i64 (if bad x then 1 else 0)], []) := by
  rw [sample_manyError_eq, In_ok, rB_some, When_ok, rI_some]; rfl
theorem Allocate_ok (fu n : Nat) (xs : List Int) (many : Int) (hl : xs.length < 20) (hfu : 1000000 ≤ fu) :
    ev fu (n + 6) 64 [.list (xs.map i1), .int .i64 many] [] = some (if xs.any bad || bad many then [.list [], .int .i64 1] else [.list ((allocN many xs).map i1), .int .i64 0], []) := by
  have hc := ContainsFunc_ok fu (n + 3) 100 [] bad rfl (fun x => by
    show ev fu (n + 2 + 1) 100 [.int .i64 x] [] = _
    rw [sample_Allocate_1_eq, In_ok, rB_some]; rfl) xs (by omega) hfu
  rw [sample_Allocate_eq, cnd_decide, List.length_map, if_neg (by omega), hc, rB_some]
  cases hb : xs.any bad with
  | true => rfl
  | false =>
    rw [cnd_false, manyError_ok fu (n + 3), rI_some, cnd_not, cnd_decide]
    cases hm : bad many with
    | true => rfl
    | false =>
      have hm' : 0 ≤ many ∧ many ≤ 2000 := by unfold bad inB at hm; simpa using hm
      have hx : ∀ x ∈ xs, 0 ≤ x ∧ x ≤ 2000 := fun x hx => by
        have := List.any_eq_false.1 hb x hx
        unfold bad inB at this; simpa using this
      simp only [Bool.false_eq_true, if_false, if_true]
      rw [allocate_ok fu n xs many hl hfu hm' hx, rO_some]; rfl
theorem SizesFault_L1 (fu n : Nat) (xs : List Int) (hl : xs.length ≤ 1000) : ∀ (m i k1 : Nat), i + m = xs.length → m < k1 → chaseref2_SizesFault_L1 fu (n + 1) k1 (xs.map i1) (xs.length : Nat) i = some ([.int .i64 (if (xs.drop i).any bad then 1 else 0)], [])
  | m, i, 0, h, hk => by omega
  | 0, i, k1 + 1, h, hk => by
    rw [chaseref2_SizesFault_L1_eq, cnd_decide, if_neg (by omega), List.drop_of_length_le (by omega)]; rfl
  | m + 1, i, k1 + 1, h, hk => by
    have hx : xs[i]? = some xs[i] := List.getElem?_eq_getElem (by omega)
    have hin : ev fu (n + 1) 75 [.int .i64 xs[i], .int .i64 0, .int .i64 2000] [] = some ([.bool (inB xs[i] 0 2000)], []) := by
      rw [chaseref2_in_eq, cnd_decide]; unfold inB
      split
      · rename_i h; simp [h]
      · rename_i h; simp [h]
    rw [chaseref2_SizesFault_L1_eq, cnd_decide, if_pos (by omega), rd_i1 hx, gd_pos (i1_len _)]
    simp only [i1, cel_zero, dI_int]
    rw [hin, rB_some, List.drop_eq_getElem_cons (show i < xs.length by omega), List.any_cons, show bad xs[i] = !inB xs[i] 0 2000 from rfl]
    cases inB xs[i] 0 2000 with
    | false => rfl
    | true =>
      rw [Bool.not_true, cnd_false, i64k (by omega)]
      exact SizesFault_L1 fu n xs hl m (i + 1) k1 (by omega) (by omega)
theorem SizesFault_ok (fu n : Nat) (xs : List Int) (hl : xs.length ≤ 1000) (hfu : 1000000 ≤ fu) : ev fu (n + 2) 65 [.list (xs.map i1)] [] = some ([.int .i64 (if xs.any bad then 1 else 0)], []) := by
  rw [chaseref2_SizesFault_eq, cnd_decide, List.length_map, if_neg (by omega)]
  exact SizesFault_L1 fu n xs hl xs.length 0 fu (by omega) (by omega)

theorem incs_len (l : List Int) : ∀ (o : List Int), (incs o l).length = o.length := by
  induction l with
  | nil => intro o; rfl
  | cons x r ih => intro o; show (incs (inc1 o x) r).length = _; rw [ih, inc1_len]
theorem allocN_len (many : Int) (xs : List Int) : (allocN many xs).length = xs.length := by
  unfold allocN; split
  · rfl
  · rw [incs_len, List.length_map]

/-! ### The law -/
theorem J3_ok (fu n : Nat) (xs : List Int) (many : Int) (hl : xs.length < 20) (hfu : 1000000 ≤ fu) (v60 : Bool) (h60 : v60 = (!(xs.any bad) && bad many)) :
    chaselaw2_SampleAllocates_J3 fu (n + 10) (xs.map i1) many (if xs.any bad || bad many then [] else (allocN many xs).map i1) (if xs.any bad || bad many then 1 else 0) (if xs.any bad then 1 else 0) v60 = some ([.bool true], []) := by
  have hd := drawn_ok fu n hfu
  rw [chaselaw2_SampleAllocates_J3_eq, h60]
  cases hb : xs.any bad with
  | true =>
    simp only [Bool.not_true, Bool.false_and, Bool.true_or, if_true, cnd_false, cnd_not, cnd_decide, List.length_nil]
    simp [hd]
  | false =>
    cases hm : bad many with
    | true =>
      simp only [Bool.not_false, Bool.true_and, Bool.or_true, if_true, cnd_true, cnd_not, cnd_decide, List.length_nil]
      simp [hd]
    | false =>
      have hm' : 0 ≤ many ∧ many ≤ 2000 := by unfold bad inB at hm; simpa using hm
      have hx : ∀ x ∈ xs, 0 ≤ x ∧ x ≤ 2000 := fun x hx => by
        have := List.any_eq_false.1 hb x hx
        unfold bad inB at this; simpa using this
      simp only [Bool.not_false, Bool.true_and, Bool.or_false, Bool.false_eq_true, if_false, cnd_false, cnd_not, cnd_decide, if_true]
      have ho := AllocateOf_ok fu (n + 8) xs many hl hfu hm' hx
      have hal : (allocN many xs).length ≤ 100000 := by rw [allocN_len]; omega
      rw [ho, rO_some, Equal_ok fu (n + 9) _ hal hfu, rB_some, cnd_true, hd, rB_some]

theorem J2_ok (fu n : Nat) (xs ls : List Int) (at_ : Int) (hl : xs.length < 20) (hfu : 1000000 ≤ fu) (h0 : 0 ≤ at_) (h1 : at_ < 1000000) :
    chaselaw2_SampleAllocates_J2 fu (n + 10) (xs.map i1) (ls.map i1) at_ = some ([.bool true], []) := by
  obtain ⟨many, hv, hp⟩ := Pick_okL fu (n + 7) ls at_ ([[.int .i64 (0 : Int)], [.int .i64 (1 : Int)], [.int .i64 (2 : Int)], [.int .i64 (5 : Int)], [.int .i64 (7 : Int)], [.int .i64 (20 : Int)], [.int .i64 (2000 : Int)], [.int .i64 (-1 : Int)], [.int .i64 (2001 : Int)]] : List (List MV)) [0, 1, 2, 5, 7, 20, 2000, -1, 2001] rfl h0 (by omega) (by simp) (by simp)
  have ha := Allocate_ok fu (n + 4) xs many hl hfu
  have hs := SizesFault_ok fu (n + 8) xs (by omega) hfu
  have h3 := fun v60 h60 => J3_ok fu n xs many hl hfu v60 h60
  unfold sb at hp
  rw [chaselaw2_SampleAllocates_J2_eq, hp]
  simp only [callE_some', unX_cons, dBx_box, unC_cons, dL_list, dI_int, unN_nil, unXN_nil]
  rw [ha, hs]
  cases hb : xs.any bad with
  | true =>
    have := h3 false (by rw [hb]; rfl)
    rw [hb] at this
    simp only [Bool.true_or, if_true] at this ⊢
    simp only [callE_some', unX_cons, dBx_box, unC_cons, dL_list, dI_int, unN_nil, unXN_nil, rI_some, cnd_decide]
    rw [if_neg (by decide)]
    exact this
  | false =>
    have hj := h3 (bad many) (by rw [hb]; simp)
    rw [hb] at hj
    simp only [Bool.false_or, Bool.false_eq_true, if_false] at hj ⊢
    have hbm : bad many = (decide (many < 0) || decide (2000 < many)) := by
      unfold bad inB
      rcases Int.lt_or_le many 0 with q | q
      · simp [q]
      · rcases Int.lt_or_le 2000 many with q2 | q2
        · simp [q2]
        · simp [q, q2]
    cases hm : bad many with
    | true =>
      rw [hm] at hj hbm
      simp only [if_true] at hj ⊢
      simp only [callE_some', unX_cons, dBx_box, unC_cons, dL_list, dI_int, unN_nil, unXN_nil, rI_some, cnd_decide, if_true]
      by_cases q : many < 0
      · rw [if_pos q]; exact hj
      · rw [if_neg q]
        have : decide (2000 < many) = true := by simp [q] at hbm; simpa using hbm
        rw [this]; exact hj
    | false =>
      rw [hm] at hj hbm
      simp only [Bool.false_eq_true, if_false] at hj ⊢
      simp only [callE_some', unX_cons, dBx_box, unC_cons, dL_list, dI_int, unN_nil, unXN_nil, rI_some, cnd_decide, if_true]
      have q : ¬ many < 0 := by intro q; simp [q] at hbm
      rw [if_neg q]
      have : decide (2000 < many) = false := by simp [q] at hbm; simpa using hbm
      rw [this]; exact hj

theorem J1_ok (fu n : Nat) (xs ls : List Int) (at_ : Int) (v30 : Bool) (hl : xs.length < 20) (hp : v30 = true → 0 < xs.length) (hfu : 1000000 ≤ fu) (h0 : 0 ≤ at_) (h1 : at_ < 100000) :
    chaselaw2_SampleAllocates_J1 fu (n + 10) (xs.map i1) v30 (ls.map i1) at_ = some ([.bool true], []) := by
  rw [chaselaw2_SampleAllocates_J1_eq]
  cases v30 with
  | false => rw [cnd_false]; exact J2_ok fu n xs ls at_ hl hfu h0 (by omega)
  | true =>
    have hpos := hp rfl
    obtain ⟨v, hv, hn⟩ := Next_ok fu (n + 8) ls at_ xs.length h0 (by omega)
    have hv := hv (by omega) (by omega)
    obtain ⟨d, hd, hq⟩ := Pick_okL fu (n + 7) ls (at_ + 1) ([[.int .i64 (-1 : Int)], [.int .i64 (2001 : Int)]] : List (List MV)) [-1, 2001] rfl (by omega) (by omega) (by simp) (by simp)
    have hlt : v.toNat < xs.length := by omega
    have ho : xs[v.toNat]? = some xs[v.toNat] := List.getElem?_eq_getElem hlt
    unfold sb at hn hq
    rw [cnd_true, List.length_map, hn]
    simp only [callE_some', unX_cons, dBx_box, unC_cons, dL_list, dI_int, unN_nil, unXN_nil]
    rw [hq]
    simp only [callE_some', unX_cons, dBx_box, unC_cons, dL_list, dI_int, unN_nil, unXN_nil]
    rw [ixG_pos hv.1 hlt, rdN_i1 ho, ovr_i1, map_set_i1]
    exact J2_ok fu n _ ls _ (by simpa using hl) hfu (by omega) (by omega)

theorem L1_ok (fu n : Nat) (ls : List Int) (c : Nat) (hc : c < 20) (hfu : 1000000 ≤ fu) : ∀ (m i k1 : Nat) (xs : List Int) (at_ : Int), i + m = c → m < k1 → xs.length = i → 0 ≤ at_ → at_ + m < 1000 →
    chaselaw2_SampleAllocates_L1 fu (n + 10) k1 (xs.map i1) (c : Nat) i (ls.map i1) at_ = some ([.bool true], [])
  | m, i, 0, xs, at_, h, hk, hx, h0, h1 => by omega
  | 0, i, k1 + 1, xs, at_, h, hk, hx, h0, h1 => by
    rw [chaselaw2_SampleAllocates_L1_eq, cnd_decide, if_neg (by omega), cnd_decide, List.length_map]
    by_cases q : (0 : Int) < (xs.length : Nat)
    · obtain ⟨b, hb⟩ := Flip_ok fu (n + 7) ls at_ 15 h0 (by omega)
      unfold sb at hb
      rw [if_pos q, hb]
      simp only [callE_some', unX_cons, dBx_box, unC_cons, dL_list, dI_int, dB_bool, unN_nil, unXN_nil]
      exact J1_ok fu n xs ls _ b (by omega) (fun _ => by omega) hfu (by omega) (by omega)
    · rw [if_neg q]
      exact J1_ok fu n xs ls _ false (by omega) (fun e => by simp at e) hfu (by omega) (by omega)
  | m + 1, i, k1 + 1, xs, at_, h, hk, hx, h0, h1 => by
    obtain ⟨d, hd, hq⟩ := Pick_okL fu (n + 7) ls at_ ([[.int .i64 (0 : Int)], [.int .i64 (1 : Int)], [.int .i64 (2 : Int)], [.int .i64 (3 : Int)], [.int .i64 (10 : Int)], [.int .i64 (10 : Int)], [.int .i64 (17 : Int)], [.int .i64 (2000 : Int)]] : List (List MV)) [0, 1, 2, 3, 10, 10, 17, 2000] rfl h0 (by omega) (by simp) (by simp)
    unfold sb at hq
    rw [chaselaw2_SampleAllocates_L1_eq, cnd_decide, if_pos (by omega), hq]
    simp only [callE_some', unX_cons, dBx_box, unC_cons, dL_list, dI_int, unN_nil, unXN_nil]
    rw [gL_pos (by simp; omega), i64k (by omega)]
    have e : xs.map i1 ++ ([[.int .i64 d]] : List (List MV)) = (xs ++ [d]).map i1 := by rw [List.map_append]; rfl
    rw [e]
    exact L1_ok fu n ls c hc hfu m (i + 1) k1 (xs ++ [d]) (at_ + 1) (by omega) (by omega) (by simp [hx]) (by omega) (by omega)

theorem SampleAllocates_ok (fu n : Nat) (ls : List Int) (hfu : 1000000 ≤ fu) : ev fu (n + 11) 12 [.list (ls.map i1)] [] = some ([.bool true], []) := by
  obtain ⟨c, hc, hp⟩ := Pick_okL fu (n + 7) ls 0 ([[.int .i64 (0 : Int)], [.int .i64 (1 : Int)], [.int .i64 (2 : Int)], [.int .i64 (3 : Int)], [.int .i64 (5 : Int)], [.int .i64 (9 : Int)]] : List (List MV)) [0, 1, 2, 3, 5, 9] rfl (by omega) (by omega) (by simp) (by simp)
  have hc2 : 0 ≤ c ∧ c < 20 := by simp at hc; omega
  unfold sb at hp
  rw [chaselaw2_SampleAllocates_eq, hp]
  simp only [callE_some', unX_cons, dBx_box, unC_cons, dL_list, dI_int, unN_nil, unXN_nil]
  have := L1_ok fu n ls c.toNat (by omega) hfu c.toNat 0 fu [] (0 + 1) (by omega) (by omega) rfl (by omega) (by omega)
  rw [Int.toNat_of_nonneg hc2.1] at this
  exact this
end Go.Pv
