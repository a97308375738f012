/- allocate. -/
import Derived.Test.YtoakchnegkmepaaSH
set_option linter.unusedSimpArgs false
set_option linter.unusedVariables false
set_option maxRecDepth 100000
namespace Go.Pv
open Go Go.Proofs

theorem alloc_L1 (fu n : Nat) (xs : List Int) (many : Int) (hl : xs.length ≤ 1000) (hx : ∀ x ∈ xs, 0 ≤ x ∧ x ≤ 2000) : ∀ (m i k1 : Nat) (acc : Int), i + m = xs.length → m < k1 → 0 ≤ acc ∧ acc ≤ 2000 * (i : Int) →
    sample_allocate_L1 fu n k1 (xs.map i1) (xs.map i1) (xs.length : Nat) i many acc = sample_allocate_L1 fu n 1 (xs.map i1) (xs.map i1) (xs.length : Nat) (xs.length : Nat) many (acc + (xs.drop i).sum)
  | m, i, 0, acc, h, hk, ha => by omega
  | 0, i, k1 + 1, acc, h, hk, ha => by
    have : i = xs.length := by omega
    subst this
    rw [List.drop_of_length_le (Nat.le_refl _), List.sum_nil, Int.add_zero, sample_allocate_L1_eq, show sample_allocate_L1 fu n 1 (xs.map i1) (xs.map i1) (xs.length : Nat) (xs.length : Nat) many acc = _ from sample_allocate_L1_eq fu n 0 _ _ _ _ _ _]
    simp only [Int.lt_irrefl, decide_false, cnd_false]
  | m + 1, i, k1 + 1, acc, h, hk, ha => by
    have hxi : xs[i]? = some xs[i] := List.getElem?_eq_getElem (by omega)
    have hb := hx xs[i] (List.getElem_mem _)
    rw [sample_allocate_L1_eq, cnd_decide, if_pos (by omega), rd_i1 hxi, gd_pos (i1_len _)]
    simp only [i1, cel_zero, dI_int]
    have := alloc_L1 fu n xs many hl hx m (i + 1) k1 (acc + xs[i]) (by omega) (by omega) (by omega)
    rw [i64k (by omega), w64 (by omega) (by omega)]
    rw [this, List.drop_eq_getElem_cons (show i < xs.length by omega), List.sum_cons, Int.add_assoc]

def rng (n : Nat) : List Int := (List.range n).map fun (k : Nat) => (k : Int)
theorem rng_len (n : Nat) : (rng n).length = n := by simp [rng]
theorem rng_succ (n : Nat) : rng (n + 1) = rng n ++ [(n : Int)] := by simp [rng, List.range_succ]
theorem rng_mem {n : Nat} {z : Int} : z ∈ rng n ↔ 0 ≤ z ∧ z < n := by
  simp only [rng, List.mem_map, List.mem_range]
  constructor
  · rintro ⟨k, hk, rfl⟩; omega
  · intro h; exact ⟨z.toNat, by omega, by omega⟩
theorem rng_sorted (n : Nat) : (rng n).Pairwise (· < ·) := by
  unfold rng
  rw [List.pairwise_map]
  exact List.pairwise_lt_range.imp (fun h => by omega)

/-- The order in which what is left is handed out. -/
def ord (many S : Int) (xs : List Int) : List Int := (srt (fun a b => rmd many S xs b - rmd many S xs a) (rng xs.length) []).reverse
/-- What is left. -/
def lft (many S : Int) (xs : List Int) : Int := many - (xs.map (quo many S)).sum

theorem quo_bnd {many S : Int} (hm : 0 ≤ many ∧ many ≤ 2000) (hS : 0 < S) {x : Int} (hx : 0 ≤ x ∧ x ≤ 2000) : 0 ≤ many * x ∧ many * x ≤ 4000000 ∧ 0 ≤ quo many S x ∧ quo many S x ≤ 4000000 := by
  have h1 : 0 ≤ many * x := Int.mul_nonneg hm.1 hx.1
  have h2 : many * x ≤ 4000000 := Int.le_trans (Int.mul_le_mul hm.2 hx.2 hx.1 (by omega)) (by omega)
  have h3 : 0 ≤ quo many S x := Int.tdiv_nonneg h1 (by omega)
  refine ⟨h1, h2, h3, ?_⟩
  have h4 : quo many S x ≤ many * x := Int.tdiv_le_self _ h1
  omega
theorem sum_bnd {l : List Int} {b : Int} (h : ∀ v ∈ l, 0 ≤ v ∧ v ≤ b) : 0 ≤ l.sum ∧ l.sum ≤ b * l.length := by
  induction l with
  | nil => simp
  | cons x r ih =>
    have h1 := h x (by simp)
    have h2 := ih (fun v hv => h v (List.mem_cons_of_mem _ hv))
    rw [List.sum_cons, List.length_cons]
    have : b * ((r.length + 1 : Nat) : Int) = b * r.length + b := by rw [Int.natCast_add, Int.mul_add]; simp
    omega

theorem lft_eq (many S : Int) (xs : List Int) : many * xs.sum = S * (xs.map (quo many S)).sum + (xs.map fun x => Int.tmod (many * x) S).sum := by
  induction xs with
  | nil => simp
  | cons x r ih =>
    simp only [List.map_cons, List.sum_cons]
    rw [Int.mul_add, ih, Int.mul_add]
    have := Int.mul_tdiv_add_tmod (many * x) S
    unfold quo
    omega
theorem lft_bnd {many S : Int} {xs : List Int} (hm : 0 ≤ many ∧ many ≤ 2000) (hS : 0 < S) (hs : xs.sum = S) (hx : ∀ x ∈ xs, 0 ≤ x ∧ x ≤ 2000) : 0 ≤ lft many S xs ∧ lft many S xs ≤ xs.length := by
  have h1 := lft_eq many S xs
  rw [hs] at h1
  have h2 : 0 ≤ (xs.map fun x => Int.tmod (many * x) S).sum ∧ (xs.map fun x => Int.tmod (many * x) S).sum ≤ S * ((xs.map fun x => Int.tmod (many * x) S).length : Nat) := by
    refine sum_bnd (fun v hv => ?_)
    obtain ⟨x, hxm, rfl⟩ := List.mem_map.1 hv
    have h3 := quo_bnd hm hS (hx x hxm)
    exact ⟨Int.tmod_nonneg _ h3.1, Int.le_of_lt (Int.tmod_lt_of_pos _ hS)⟩
  rw [List.length_map] at h2
  have e : S * lft many S xs = (xs.map fun x => Int.tmod (many * x) S).sum := by
    unfold lft
    rw [Int.mul_sub, Int.mul_comm S many]; omega
  constructor
  · by_cases h : 0 ≤ lft many S xs
    · exact h
    · have : S * lft many S xs ≤ S * (-1) := Int.mul_le_mul_of_nonneg_left (by omega) (by omega)
      omega
  · by_cases h : lft many S xs ≤ xs.length
    · exact h
    · have : S * ((xs.length : Int) + 1) ≤ S * lft many S xs := Int.mul_le_mul_of_nonneg_left (by omega) (by omega)
      rw [Int.mul_add] at this; omega

theorem alloc_L2 (fu n : Nat) (xs : List Int) (many S : Int) (hl : xs.length < 20) (hfu : 1000000 ≤ fu) (hm : 0 ≤ many ∧ many ≤ 2000) (hS : 0 < S ∧ S ≤ 1000000) (hs : xs.sum = S) (hx : ∀ x ∈ xs, 0 ≤ x ∧ x ≤ 2000) : ∀ (m i k1 : Nat), i + m = xs.length → m < k1 →
    sample_allocate_L2 fu (n + 4) k1 (xs.map i1) (((xs.take i).map (quo many S) ++ List.replicate m 0).map i1) (many - ((xs.take i).map (quo many S)).sum) ((rng i).map i1) (xs.map i1) (xs.length : Nat) i many S =
      some ([.ref 0], [some (.row false 1 ((incs (xs.map (quo many S)) ((ord many S xs).take (lft many S xs).toNat)).map i1) [])])
  | m, i, 0, h, hk => by omega
  | 0, i, k1 + 1, h, hk => by
    have hi : i = xs.length := by omega
    subst hi
    have hb := lft_bnd hm hS.1 hs hx
    have hso := sort_ok fu (n + 1) 122 [.cptr [.int .i64 many] 0, .cptr [.list (xs.map i1)] 0, .cptr [.int .i64 S] 0] _ _ (cmp_ok fu n many S xs hm hS hx) hfu (rng xs.length) (fun y hy => rng_mem.1 hy) (by rw [rng_len]; exact hl)
    have hol : (ord many S xs).length = xs.length := by simp [ord, srt_len, rng_len]
    have ho : (srt (fun a b => rmd many S xs b - rmd many S xs a) (rng xs.length) []).reverse = ord many S xs := rfl
    rw [sample_allocate_L2_eq, cnd_decide, if_neg (by omega), hso]
    simp only [callE_some', unX_cons, dRw_row, unXN_nil, unN_nil]
    rw [ho, List.take_of_length_le (Nat.le_refl _), show many - (xs.map (quo many S)).sum = lft many S xs from rfl, slL_pos (by simp only [List.length_map, hol]; omega) (by
      cases hq : ord many S xs with
      | nil => rfl
      | cons a r => rfl)]
    have e1 : (((ord many S xs).map i1).drop ((0 : Nat) : Int).toNat).take ((lft many S xs).toNat - ((0 : Nat) : Int).toNat) = ((ord many S xs).take (lft many S xs).toNat).map i1 := by
      simp [List.map_take]
    rw [e1, List.length_map]
    have h3 := alloc_L3 fu (n + 4) ((ord many S xs).take (lft many S xs).toNat) (by simp [hol]; omega) ((ord many S xs).take (lft many S xs).toNat).length 0 fu (xs.map (quo many S) ++ List.replicate 0 0) 4000000 (by omega) (by simp [hol]; omega) (fun z hz => by
      have hz := List.mem_of_mem_take hz
      unfold ord at hz
      rw [List.mem_reverse] at hz
      rcases srt_mem.1 hz with q | q
      · have := rng_mem.1 q; simp; omega
      · simp at q) (fun v hv => by
      simp only [List.replicate_zero, List.append_nil] at hv
      obtain ⟨x, hxm, rfl⟩ := List.mem_map.1 hv
      have := quo_bnd hm hS.1 (hx x hxm); omega) (by simp [hol]; omega)
    simp only [List.replicate_zero, List.append_nil, List.drop_zero] at h3 ⊢
    exact h3
  | m + 1, i, k1 + 1, h, hk => by
    have hxi : xs[i]? = some xs[i] := List.getElem?_eq_getElem (by omega)
    have hb := hx xs[i] (List.getElem_mem _)
    have hq := quo_bnd hm hS.1 hb
    have hpl : ((xs.take i).map (quo many S)).length = i := by simp; omega
    have hsum := sum_bnd (l := (xs.take i).map (quo many S)) (b := 4000000) (fun v hv => by
      obtain ⟨x, hxm, rfl⟩ := List.mem_map.1 hv
      have := quo_bnd hm hS.1 (hx x (List.mem_of_mem_take hxm)); omega)
    rw [hpl] at hsum
    have e0 : (xs.take i).map (quo many S) ++ List.replicate (m + 1) 0 = (xs.take i).map (quo many S) ++ 0 :: List.replicate m 0 := by rw [List.replicate_succ]
    have g0 : ((xs.take i).map (quo many S) ++ 0 :: List.replicate m 0)[i]? = some 0 := by
      rw [List.getElem?_append_right (by omega), hpl]; simp
    have g1 : ((xs.take i).map (quo many S) ++ quo many S xs[i] :: List.replicate m 0)[i]? = some (quo many S xs[i]) := by
      rw [List.getElem?_append_right (by omega), hpl]; simp
    have hlen : ((((xs.take i).map (quo many S) ++ 0 :: List.replicate m 0)).map i1).length = xs.length := by simp; omega
    have hset : (((xs.take i).map (quo many S) ++ 0 :: List.replicate m 0).map i1).set i (i1 (quo many S xs[i])) = ((xs.take i).map (quo many S) ++ quo many S xs[i] :: List.replicate m 0).map i1 := by
      have := set_i1 ((xs.take i).map (quo many S)) (List.replicate m 0) 0 (quo many S xs[i])
      rw [hpl] at this; exact this
    have hlen2 : ((((xs.take i).map (quo many S) ++ quo many S xs[i] :: List.replicate m 0)).map i1).length = xs.length := by simp; omega
    have hS0 : S ≠ 0 := by omega
    have wq : IntKind.i64.wrap (Int.tdiv (IntKind.i64.wrap (many * xs[i])) S) = quo many S xs[i] := by
      rw [show IntKind.i64.wrap (many * xs[i]) = many * xs[i] from w64 (by omega) (by omega)]
      unfold quo at hq ⊢
      exact w64 (by omega) (by omega)
    rw [sample_allocate_L2_eq, cnd_decide, if_pos (by omega), rd_i1 hxi, gd_pos (i1_len _)]
    simp only [i1, cel_zero, dI_int, gd_pos hS0]
    rw [e0, hlen, ixG_n (by omega), Int.toNat_natCast, rdN_i1 g0, wq, ovr_i1, hset, hlen2, ixG_n (by omega), rdN_i1 g1]
    simp only [i1, cel_zero, dI_int]
    rw [gL_pos (by simp [rng_len]; omega), i64k (by omega)]
    have e3 : (rng i).map i1 ++ [[.int .i64 (i : Int)]] = (rng (i + 1)).map i1 := by rw [rng_succ, List.map_append]; rfl
    have ts : xs.take (i + 1) = xs.take i ++ [xs[i]] := by rw [List.take_add_one, hxi]; rfl
    have e4 : (xs.take i).map (quo many S) ++ quo many S xs[i] :: List.replicate m 0 = (xs.take (i + 1)).map (quo many S) ++ List.replicate m 0 := by
      rw [ts, List.map_append, List.append_assoc]; rfl
    have e5 : ((xs.take (i + 1)).map (quo many S)).sum = ((xs.take i).map (quo many S)).sum + quo many S xs[i] := by
      rw [ts, List.map_append, List.sum_append]; simp
    have hw : IntKind.i64.wrap (many - ((xs.take i).map (quo many S)).sum - quo many S xs[i]) = many - ((xs.take (i + 1)).map (quo many S)).sum := by
      rw [e5, w64 (by omega) (by omega)]; omega
    rw [hw, e4]
    have := alloc_L2 fu n xs many S hl hfu hm hS hs hx m (i + 1) k1 (by omega) (by omega)
    rw [← e3] at this
    exact this

/-- What is handed out. -/
def allocN (many : Int) (xs : List Int) : List Int := if xs.sum ≤ many then xs else incs (xs.map (quo many xs.sum)) ((ord many xs.sum xs).take (lft many xs.sum xs).toNat)
theorem allocate_ok (fu n : Nat) (xs : List Int) (many : Int) (hl : xs.length < 20) (hfu : 1000000 ≤ fu) (hm : 0 ≤ many ∧ many ≤ 2000) (hx : ∀ x ∈ xs, 0 ≤ x ∧ x ≤ 2000) :
    ev fu (n + 5) 102 [.list (xs.map i1), .int .i64 many] [] = some ([.ref 0], [some (.row false 1 ((allocN many xs).map i1) [])]) := by
  have hb := sum_bnd hx
  have h1 := alloc_L1 fu (n + 4) xs many (by omega) hx xs.length 0 fu 0 (by omega) (by omega) (by omega)
  rw [show ((0 : Nat) : Int) = 0 from rfl] at h1
  rw [sample_allocate_eq, List.length_map, h1, Int.zero_add, List.drop_zero, sample_allocate_L1_eq fu (n + 4) 0]
  rw [cnd_decide, if_neg (by omega), List.length_map, gd_pos (by omega), cnd_decide]
  unfold allocN
  by_cases h : xs.sum ≤ many
  · rw [if_pos h, if_pos h, wid_i1, sB_true]
    have e : List.take (List.length (List.replicate (Int.toNat ((xs.length : Nat) : Int)) ([.int .i64 (0 : Int)] : List MV))) (xs.map i1) ++ List.drop xs.length (List.replicate (Int.toNat ((xs.length : Nat) : Int)) ([.int .i64 (0 : Int)] : List MV)) = xs.map i1 := by
      rw [List.length_replicate, Int.toNat_natCast, List.take_of_length_le (by simp), List.drop_of_length_le (by simp), List.append_nil]
    rw [e]
  · rw [if_neg h, if_neg h]
    have := alloc_L2 fu n xs many xs.sum hl hfu hm (by omega) rfl hx xs.length 0 fu (by omega) (by omega)
    simp only [List.take_zero, List.map_nil, List.nil_append, List.sum_nil, Int.sub_zero] at this
    rw [show ((0 : Nat) : Int) = 0 from rfl] at this
    have e : (List.replicate xs.length (0 : Int)).map i1 = List.replicate (Int.toNat ((xs.length : Nat) : Int)) ([.int .i64 (0 : Int)] : List MV) := by simp [i1]
    rw [e] at this
    exact this
end Go.Pv
