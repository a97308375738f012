/- Numbers without a bound, as the program keeps them. -/
import Derived.Test.YtoakchnegkmepaaS1
import Derived.Test.YtoakchnegkmepaaN1
set_option linter.unusedSimpArgs false
set_option linter.unusedVariables false
set_option maxRecDepth 100000
namespace Go.Pv
open Go Go.Proofs

/-! ### Numbers of the machine as natural numbers -/
theorem slL_pos {α : Type} {sz : Nat} {es : List (List MV)} {l h : Int} (h1 : 0 ≤ l ∧ l ≤ h ∧ h ≤ (es.length : Int)) (h2 : widAt sz es l.toNat = true) (K : List (List MV) → Option α) : slL sz es l h K = K ((es.drop l.toNat).take (h.toNat - l.toNat)) := if_pos ⟨h1, h2⟩
theorem i64n {n : Nat} (h : n ≤ 9223372036854775807) : IntKind.i64.wrap (n : Int) = n := w64 (by omega) (by omega)
theorem i64s {n : Nat} (h : n < 9223372036854775807) : IntKind.i64.wrap ((n : Int) + 1) = ((n + 1 : Nat) : Int) := by rw [w64 (by omega) (by omega)]; omega
theorem i64p {n : Nat} (h : n ≤ 9223372036854775807) : IntKind.i64.wrap (((n + 1 : Nat) : Int) - 1) = (n : Int) := by rw [w64 (by omega) (by omega)]; omega
theorem u64n {n : Nat} (h : n ≤ 18446744073709551615) : IntKind.u64.wrap (n : Int) = n := wu64 (by omega) (by omega)
theorem u32mn (n : Nat) : IntKind.u32.wrap (n : Int) = ((n % 4294967296 : Nat) : Int) := by rw [wu32m]; omega
theorem shr32 (n : Nat) : shrV .u64 (n : Int) 32 = ((n / 4294967296 : Nat) : Int) := by
  have e : ((2 : Int) ^ (min (32 : Int).toNat IntKind.u64.bits)) = 4294967296 := by decide
  unfold shrV
  rw [e, Int.fdiv_eq_ediv_of_nonneg _ (by omega)]; omega
theorem bit_or (a b : Nat) (ha : a < 4294967296) (hb : b < 4294967296) : bitI .or .u64 (shlV .u64 (a : Int) 32) (b : Int) = ((a * 4294967296 + b : Nat) : Int) := by
  have e : ((2 : Int) ^ (min (32 : Int).toNat IntKind.u64.bits)) = 4294967296 := by decide
  have e2 : shlV .u64 (a : Int) 32 = ((a * 4294967296 : Nat) : Int) := by
    unfold shlV; rw [e, wu64 (by omega) (by omega)]; omega
  rw [e2]
  have n1 : (((a * 4294967296 : Nat) : Int) % ((2 ^ 64 : Nat) : Int)).toNat = a * 4294967296 := by omega
  have n2 : ((b : Int) % ((2 ^ 64 : Nat) : Int)).toNat = b := by omega
  have n3 : bitI .or .u64 ((a * 4294967296 : Nat) : Int) (b : Int) = IntKind.u64.wrap ((BitVec.ofInt 64 ((a * 4294967296 : Nat) : Int) ||| BitVec.ofInt 64 (b : Int)).toNat : Int) := rfl
  rw [n3, BitVec.toNat_or, BitVec.toNat_ofInt, BitVec.toNat_ofInt, n1, n2]
  have h3 := Nat.shiftLeft_add_eq_or_of_lt (show b < 2 ^ 32 from hb) a
  rw [Nat.shiftLeft_eq] at h3
  rw [show (4294967296 : Nat) = 2 ^ 32 from rfl, ← h3]
  exact u64n (by omega)

/-! ### Digits of 32 bits -/
abbrev nB : Nat := 4294967296
theorem nB2 : 2 ≤ nB := by decide
def u1 (d : Nat) : List MV := [.int .u32 d]
def nat (v : Nat) : List (List MV) := (digs nB v).map u1
@[simp] theorem npL_u1 (x : Nat) : npL (u1 x) = true := rfl
@[simp] theorem u1_len (d : Nat) : (u1 d).length = 1 := rfl
theorem rd_u1 {α : Type} {xs : List Nat} {i x : Nat} (h : xs[i]? = some x) (K : List MV → Option α) : rd (xs.map u1) (i : Int) K = K (u1 x) := rd_nat (by simp [h]) K
theorem rdN_u1 {α : Type} {xs : List Nat} {i x : Nat} (h : xs[i]? = some x) (K : List MV → Option α) : rdN (xs.map u1) i K = K (u1 x) := rdN_get (by simp [h]) K
theorem set_u1 (o r : List Nat) (x d : Nat) : ((o ++ x :: r).map u1).set o.length (u1 d) = ((o ++ [d]) ++ r).map u1 := by
  simp [List.map_append, List.set_append]
theorem ovr_u1 (x d : Nat) : ovr (u1 x) 0 [.int .u32 d] = u1 d := rfl
theorem ixG_n {α : Type} {n i : Nat} (h : i < n) (o : Option α) : ixG n (i : Int) o = o := ixG_pos (by omega) (by omega) o

theorem cut_L1 (fu n : Nat) : ∀ (m : Nat) (ds : List Nat) (k1 : Nat), ds.length = m → (∀ d ∈ ds, d < nB) → m < k1 → m ≤ 100000 →
    sample_natural_cut_L1 fu n k1 (ds.map u1) = some ([.list (nat (valD nB ds))], [])
  | 0, ds, k1 + 1, hl, hd, hk, hm => by
    have : ds = [] := List.length_eq_zero_iff.1 hl
    subst this
    rw [sample_natural_cut_L1_eq]
    simp [sample_natural_cut_J1_eq, nat, valD, digs_zero]
  | m + 1, ds, k1 + 1, hl, hd, hk, hm => by
    rw [sample_natural_cut_L1_eq]
    have hx : ds[m]? = some ds[m] := List.getElem?_eq_getElem (by omega)
    have hs : ds = ds.take m ++ [ds[m]] := by
      have := List.take_append_drop m ds
      rw [List.drop_eq_getElem_cons (by omega), List.drop_of_length_le (by omega)] at this
      exact this.symm
    simp only [List.length_map, hl, cnd_decide]
    rw [if_pos (by omega), i64p (by omega), rd_u1 hx, gd_pos (u1_len _)]
    simp only [u1, cel_zero, dI_int, sample_natural_cut_J1_eq, cnd_decide]
    by_cases h0 : ds[m] = 0
    · rw [if_pos (by omega)]
      simp only [List.length_map, hl]
      rw [i64p (by omega), slL_pos (by constructor; omega; simp [hl]; omega) (by
        cases ds with
        | nil => simp at hl
        | cons a r => rfl)]
      have e : (((ds.map u1).drop ((0 : Nat) : Int).toNat).take ((m : Int).toNat - ((0 : Nat) : Int).toNat)) = (ds.take m).map u1 := by
        simp [List.map_take]
      have e' := cut_L1 fu n m (ds.take m) k1 (by simp [hl]) (fun d h => hd d (List.mem_of_mem_take h)) (by omega) (by omega)
      have e2 : valD nB ds = valD nB (ds.take m) := by
        conv => lhs; rw [hs, valD_app, h0]
        simp [valD]
      rw [e2, ← e', ← e]
    · rw [if_neg (by omega)]
      have e2 : digs nB (valD nB ds) = ds := digs_valD nB2 ds hd (by
        rw [List.getLast?_eq_getElem?, hl, Nat.add_sub_cancel, hx]; simp [h0])
      simp only [nat, e2]

theorem cut_ok (fu n : Nat) (ds : List Nat) (hd : ∀ d ∈ ds, d < nB) (hl : ds.length ≤ 100000) (hfu : 1000000 ≤ fu) :
    ev fu (n + 1) 124 [.list (ds.map u1)] [] = some ([.list (nat (valD nB ds))], []) := by
  rw [sample_natural_cut_eq, cut_L1 fu n ds.length ds fu rfl hd (by omega) hl]


/-! ### Sums -/
def Dg (xs : List Nat) : Prop := ∀ d ∈ xs, d < nB
/-- What is left from a place on. -/
def vd (xs : List Nat) (i : Nat) : Nat := valD nB (xs.drop i)
theorem Dg_digs (v : Nat) : Dg (digs nB v) := digs_mem nB2 v
theorem vd_0 (v : Nat) : vd (digs nB v) 0 = v := valD_digs nB2 v
theorem vd_out {xs : List Nat} {i : Nat} (h : ¬ i < xs.length) : vd xs i = 0 := by
  unfold vd; rw [List.drop_of_length_le (by omega)]; rfl
theorem vd_in {xs : List Nat} {i : Nat} (h : i < xs.length) : vd xs i = xs[i] + nB * vd xs (i + 1) := by
  unfold vd; rw [List.drop_eq_getElem_cons h]; rfl
theorem vd_get {xs : List Nat} (hx : Dg xs) {i : Nat} (h : i < xs.length) : xs[i]? = some (vd xs i % nB) := by
  rw [List.getElem?_eq_getElem h, vd_in h, Nat.add_mul_mod_self_left, Nat.mod_eq_of_lt (hx _ (List.getElem_mem h))]
theorem vd_succ {xs : List Nat} (hx : Dg xs) (i : Nat) : vd xs (i + 1) = vd xs i / nB := by
  by_cases h : i < xs.length
  · rw [vd_in h, Nat.add_mul_div_left _ _ (by decide), Nat.div_eq_of_lt (hx _ (List.getElem_mem h)), Nat.zero_add]
  · rw [vd_out h, vd_out (by omega), Nat.zero_div]
theorem Dg_snoc {o : List Nat} (h : Dg o) {s : Nat} : Dg (o ++ [s % nB]) := by
  intro d hd2
  rcases List.mem_append.1 hd2 with h5 | h5
  · exact h d h5
  · rw [List.mem_singleton] at h5; subst h5; exact Nat.mod_lt _ (by decide)

theorem plus_J1 (fu n k1 : Nat) (ys : List Nat) (hy : Dg ys) (r : List (List MV)) (i m c : Nat) (hc : c < 8589934592) (v0 : List (List MV)) :
    sample_natural_plus_J1 fu n k1 v0 (ys.map u1) r i c m i = sample_natural_plus_J2 fu n k1 v0 (ys.map u1) r i ((c + vd ys i % nB : Nat) : Int) m i := by
  rw [sample_natural_plus_J1_eq]
  simp only [List.length_map, cnd_decide]
  have hm : vd ys i % nB < 4294967296 := Nat.mod_lt _ (by decide)
  by_cases h : i < ys.length
  · rw [if_pos (by omega), rd_u1 (vd_get hy h), gd_pos (u1_len _)]
    simp only [u1, cel_zero, dI_int]
    rw [u64n (by omega), ← Int.natCast_add, u64n (by omega)]
  · rw [if_neg (by omega), vd_out h]; simp
theorem sum_step {s c V W : Nat} (h : c + V % nB + W % nB = s) : s % nB + nB * (s / nB + V / nB + W / nB) = c + V + W := by
  simp only [nB] at *; omega

theorem plus_L1 (fu n : Nat) (xs ys : List Nat) (hx : Dg xs) (hy : Dg ys) (hfu : 1000000 ≤ fu) : ∀ (k : Nat) (o : List Nat) (c i k1 : Nat), o.length = i → k < k1 → c < 4294967296 → c + vd xs i + vd ys i < nB ^ k → Dg o → i + k ≤ 100000 →
    sample_natural_plus_L1 fu (n + 1) k1 (xs.map u1) (ys.map u1) ((o ++ List.replicate k 0).map u1) c ((i + k : Nat) : Int) i = some ([.list (nat (valD nB o + nB ^ i * (c + vd xs i + vd ys i)))], [])
  | 0, o, c, i, k1 + 1, hl, hk, hc, hb, hd, hm => by
    rw [sample_natural_plus_L1_eq, cnd_decide, if_neg (by omega)]
    rw [List.replicate_zero, List.append_nil, cut_ok fu n o hd (by omega) hfu, rL_some]
    have h0 : c + vd xs i + vd ys i = 0 := Nat.lt_one_iff.1 hb
    rw [h0]; rfl
  | k + 1, o, c, i, k1 + 1, hl, hk, hc, hb, hd, hm => by
    rw [sample_natural_plus_L1_eq, cnd_decide, if_pos (by omega)]
    have hm1 : vd xs i % nB < 4294967296 := Nat.mod_lt _ (by decide)
    have hm2 : vd ys i % nB < 4294967296 := Nat.mod_lt _ (by decide)
    have e1 : cnd (decide ((i : Int) < (((xs.map u1).length : Nat) : Int))) (rd (xs.map u1) i fun e1 => gd (List.length e1 = 1) (cel e1 0 fun m2 => (dI .u32 m2 fun x3 => (sample_natural_plus_J1 fu (n + 1) k1 (xs.map u1) (ys.map u1) ((o ++ List.replicate (k + 1) 0).map u1) i (IntKind.u64.wrap (c + (IntKind.u64.wrap x3))) ((i + (k + 1) : Nat) : Int) i)))) (sample_natural_plus_J1 fu (n + 1) k1 (xs.map u1) (ys.map u1) ((o ++ List.replicate (k + 1) 0).map u1) i c ((i + (k + 1) : Nat) : Int) i)
        = sample_natural_plus_J1 fu (n + 1) k1 (xs.map u1) (ys.map u1) ((o ++ List.replicate (k + 1) 0).map u1) i ((c + vd xs i % nB : Nat) : Int) ((i + (k + 1) : Nat) : Int) i := by
      simp only [cnd_decide, List.length_map]
      by_cases h : i < xs.length
      · rw [if_pos (by omega), rd_u1 (vd_get hx h), gd_pos (u1_len _)]
        simp only [u1, cel_zero, dI_int]
        rw [u64n (by omega), ← Int.natCast_add, u64n (by omega)]
      · rw [if_neg (by omega), vd_out h]; simp
    rw [e1, plus_J1 fu (n + 1) k1 ys hy _ i _ _ (by omega), sample_natural_plus_J2_eq, gd_pos (by decide)]
    generalize hs : c + vd xs i % nB + vd ys i % nB = s
    rw [ixG_n (by simp; omega), Int.toNat_natCast, List.replicate_succ, rdN_u1 (x := 0) (by simp [← hl]), u32mn, ovr_u1, ← hl, set_u1 o _ 0, hl, shr32, i64s (by omega)]
    have hk2 := plus_L1 fu n xs ys hx hy hfu k (o ++ [s % nB]) (s / nB) (i + 1) k1 (by simp [hl]) (by omega)
      (by show s / 4294967296 < _; omega)
      (by
        rw [vd_succ hx, vd_succ hy]
        have h3 := sum_step hs
        have h4 : nB * (s / nB + vd xs i / nB + vd ys i / nB) < nB * nB ^ k := by
          rw [Nat.mul_comm nB (nB ^ k), ← Nat.pow_succ]
          exact Nat.lt_of_le_of_lt (by rw [← h3]; exact Nat.le_add_left _ _) hb
        exact Nat.lt_of_mul_lt_mul_left h4)
      (Dg_snoc hd) (by omega)
    have e3 : i + (k + 1) = i + 1 + k := by omega
    rw [e3]
    refine hk2.trans ?_
    have e4 : valD nB (o ++ [s % nB]) + nB ^ (i + 1) * (s / nB + vd xs (i + 1) + vd ys (i + 1)) = valD nB o + nB ^ i * (c + vd xs i + vd ys i) := by
      rw [valD_app, hl, vd_succ hx, vd_succ hy, Nat.pow_succ, Nat.add_assoc (valD nB o), Nat.mul_assoc (nB ^ i), ← Nat.mul_add]
      congr 2
      simp only [valD, Nat.mul_zero, Nat.add_zero]
      exact sum_step hs
    rw [e4]

theorem nat_len_le {v k : Nat} (h : v < nB ^ k) : (digs nB v).length ≤ k := digs_len_le nB2 h
theorem plus_okD (fu n : Nat) (xs ys : List Nat) (hx : Dg xs) (hy : Dg ys) (hfu : 1000000 ≤ fu) (l1 : xs.length ≤ 100) (l2 : ys.length ≤ 100) :
    ev fu (n + 2) 108 [.list (xs.map u1), .list (ys.map u1)] [] = some ([.list (nat (valD nB xs + valD nB ys))], []) := by
  have b1 : valD nB xs < nB ^ xs.length := valD_lt xs hx
  have b2 : valD nB ys < nB ^ ys.length := valD_lt ys hy
  obtain ⟨m, hm, h1, h2, h3⟩ : ∃ m : Nat, mm2 true (((xs.map u1).length : Nat) : Int) (((ys.map u1).length : Nat) : Int) = (m : Int) ∧ xs.length ≤ m ∧ ys.length ≤ m ∧ m ≤ 100 := by
    unfold mm2; simp only [if_true, List.length_map]
    split
    · exact ⟨ys.length, rfl, by omega, by omega, l2⟩
    · exact ⟨xs.length, rfl, by omega, by omega, l1⟩
  rw [sample_natural_plus_eq, hm, i64s (by omega), gd_pos (by omega), Int.toNat_natCast, List.length_replicate]
  have h := plus_L1 fu n xs ys hx hy hfu (m + 1) [] 0 0 fu rfl (by omega) (by omega) (by
    have p1 : nB ^ xs.length ≤ nB ^ m := Nat.pow_le_pow_right (by decide) h1
    have p2 : nB ^ ys.length ≤ nB ^ m := Nat.pow_le_pow_right (by decide) h2
    have q1 : vd xs 0 = valD nB xs := rfl
    have q2 : vd ys 0 = valD nB ys := rfl
    rw [Nat.pow_succ, q1, q2]; simp only [nB] at *; omega) (by intro d hd; cases hd) (by omega)
  simp only [List.nil_append, List.map_replicate, valD, Nat.pow_zero, Nat.zero_add, Nat.one_mul] at h
  rw [show ([.int .u32 (0 : Int)] : List MV) = u1 0 from rfl]
  exact h
def nM : Nat := nB ^ 100
theorem plus_ok (fu n v w : Nat) (hfu : 1000000 ≤ fu) (hv : v < nM) (hw : w < nM) :
    ev fu (n + 2) 108 [.list (nat v), .list (nat w)] [] = some ([.list (nat (v + w))], []) := by
  have h := plus_okD fu n (digs nB v) (digs nB w) (Dg_digs v) (Dg_digs w) hfu (nat_len_le hv) (nat_len_le hw)
  rw [valD_digs nB2, valD_digs nB2] at h; exact h

theorem new_ok (fu n v : Nat) (hfu : 1000000 ≤ fu) (hv : v < 4294967296) :
    ev fu (n + 3) 110 [.int .i64 v] [] = some ([.list (nat v)], []) := by
  rw [sample_newNatural_eq, gd_pos (by decide), u64n (by omega), shr32, u32mn, u32mn, Nat.mod_eq_of_lt hv, Nat.div_eq_of_lt hv]
  have h := plus_okD fu n [] [v, 0] (by intro d hd; cases hd) (by intro d hd; simp at hd; rcases hd with h | h <;> subst h <;> simp only [nB] <;> omega) hfu (by simp) (by simp)
  simp only [valD, Nat.mul_zero, Nat.add_zero, Nat.zero_add, List.map_cons, List.map_nil] at h
  have h2 : ev fu (n + 2) 108 [.list [], .list [[.int .u32 (v : Int)], [.int .u32 ((0 % 4294967296 : Nat) : Int)]]] [] = some ([.list (nat v)], []) := h
  rw [h2, rL_some]

/-! ### Products -/
theorem mul_step {a b o c : Nat} (ha : a < nB) (hb : b < nB) (ho : o < nB) (hc : c < nB) : a * b + o + c < nB * nB := by
  have h := Nat.mul_le_mul (Nat.le_sub_one_of_lt ha) (Nat.le_sub_one_of_lt hb)
  simp only [nB] at *; omega

theorem times_L2 (fu n k1 : Nat) (xs ys : List Nat) (hy : Dg ys) (i a : Nat) (ha : a < nB) (r : Nat) (hi : i + ys.length ≤ 90000) : ∀ (q p : List Nat) (c j k2 : Nat), p.length = i + j → q.length + j = ys.length → q.length < k2 → c < nB → Dg p → Dg q →
    ∃ o, Dg o ∧ o.length = i + ys.length + 1 ∧ valD nB o = valD nB p + nB ^ (i + j) * (valD nB q + c + a * vd ys j) ∧
    sample_natural_times_L2 fu n k1 k2 (ys.map u1) ((p ++ q ++ List.replicate (r + 1) 0).map u1) i a c (xs.map u1) (xs.length : Nat) i (ys.map u1) (ys.length : Nat) j
      = sample_natural_times_L1 fu n k1 (ys.map u1) ((o ++ List.replicate r 0).map u1) (xs.map u1) (xs.length : Nat) ((i + 1 : Nat) : Int)
  | [], p, c, j, k2 + 1, hp, hq, hk, hc, hdp, hdq => by
    simp only [List.length_nil, Nat.zero_add] at hq
    refine ⟨p ++ [c % nB], Dg_snoc hdp, by simp; omega, ?_, ?_⟩
    · rw [valD_app, vd_out (by omega), hp, Nat.mod_eq_of_lt hc]; simp [valD]
    · rw [sample_natural_times_L2_eq, cnd_decide, if_neg (by omega)]
      simp only [List.length_map, List.append_nil, List.replicate_succ]
      have e : IntKind.i64.wrap ((i : Int) + ((ys.length : Nat) : Int)) = ((p.length : Nat) : Int) := by
        rw [← Int.natCast_add, i64n (by omega)]; omega
      rw [e, ixG_n (by simp), Int.toNat_natCast, rdN_u1 (x := 0) (by simp), u32mn, ovr_u1, set_u1 p _ 0, i64s (by omega)]
  | q0 :: q, p, c, j, k2 + 1, hp, hq, hk, hc, hdp, hdq => by
    simp only [List.length_cons] at hq
    have hj : j < ys.length := by omega
    have hq0 : q0 < nB := hdq q0 (List.mem_cons_self ..)
    have hm2 : vd ys j % nB < nB := Nat.mod_lt _ (by decide)
    have hms := mul_step ha hm2 hq0 hc
    generalize hs : a * (vd ys j % nB) + q0 + c = s at hms
    obtain ⟨o, h1, h2, h3, h4⟩ := times_L2 fu n k1 xs ys hy i a ha r hi q (p ++ [s % nB]) (s / nB) (j + 1) k2 (by simp; omega) (by omega) (by simp at hk; omega) ((Nat.div_lt_iff_lt_mul (by decide)).2 hms) (Dg_snoc hdp) (fun d hd => hdq d (List.mem_cons_of_mem _ hd))
    refine ⟨o, h1, h2, ?_, ?_⟩
    · rw [h3, valD_app, hp, ← Nat.add_assoc, Nat.pow_succ, Nat.add_assoc (valD nB p), Nat.mul_assoc (nB ^ (i + j)), ← Nat.mul_add]
      congr 2
      simp only [valD, Nat.mul_zero, Nat.add_zero]
      rw [vd_succ hy]
      have a1 := Nat.mod_add_div s nB
      have a2 := Nat.mod_add_div (vd ys j) nB
      have a3 : a * vd ys j = a * (vd ys j % nB) + nB * (a * (vd ys j / nB)) := by
        conv => lhs; rw [← a2, Nat.mul_add]
        congr 1; ac_rfl
      rw [a3, Nat.mul_add, Nat.mul_add]; omega
    · rw [sample_natural_times_L2_eq, cnd_decide, if_pos (by omega), rd_u1 (vd_get hy hj), gd_pos (u1_len _)]
      simp only [u1, cel_zero, dI_int]
      have e : IntKind.i64.wrap ((i : Int) + (j : Int)) = ((p.length : Nat) : Int) := by
        rw [← Int.natCast_add, i64n (by omega)]; omega
      have e5 : (p ++ q0 :: q ++ List.replicate (r + 1) 0).map u1 = (p ++ q0 :: (q ++ List.replicate (r + 1) 0)).map u1 := by simp
      rw [e, e5, ixG_n (by simp), Int.toNat_natCast, rdN_u1 (x := q0) (by simp)]
      simp only [u1, cel_zero, dI_int]
      rw [gd_pos (by decide), ixG_n (by simp), rdN_u1 (x := q0) (by simp)]
      have nb : nB * nB = 18446744073709551616 := rfl
      have b1 : a * (vd ys j % nB) < 18446744073709551616 := by omega
      simp only [nB] at ha hm2 hq0 hc b1 hs ⊢
      rw [u64n (n := a) (by omega), u64n (n := vd ys j % 4294967296) (by omega), u64n (n := q0) (by omega), ← Int.natCast_mul, u64n (n := a * (vd ys j % 4294967296)) (by omega), ← Int.natCast_add, u64n (by omega), ← Int.natCast_add, u64n (by omega), hs, u32mn, ovr_u1, set_u1 p _ q0, shr32, i64s (by omega)]
      have e6 : (p ++ [s % 4294967296] ++ (q ++ List.replicate (r + 1) 0)).map u1 = (p ++ [s % nB] ++ q ++ List.replicate (r + 1) 0).map u1 := by simp
      rw [e6]
      exact h4

theorem times_L1 (fu n : Nat) (xs ys : List Nat) (hx : Dg xs) (hy : Dg ys) (hfu : 1000000 ≤ fu) (l1 : xs.length ≤ 100) (l2 : ys.length ≤ 100) : ∀ (r : Nat) (o : List Nat) (i k1 : Nat), o.length = i + ys.length → i + r = xs.length → r < k1 → Dg o →
    sample_natural_times_L1 fu (n + 1) k1 (ys.map u1) ((o ++ List.replicate r 0).map u1) (xs.map u1) (xs.length : Nat) i = some ([.list (nat (valD nB o + nB ^ i * (vd xs i * valD nB ys)))], [])
  | 0, o, i, k1 + 1, hl, hi, hk, hd => by
    rw [sample_natural_times_L1_eq, cnd_decide, if_neg (by omega)]
    rw [List.replicate_zero, List.append_nil, cut_ok fu n o hd (by omega) hfu, rL_some, vd_out (by omega)]
    simp
  | r + 1, o, i, k1 + 1, hl, hi, hk, hd => by
    have hi2 : i < xs.length := by omega
    have hm : vd xs i % nB < nB := Nat.mod_lt _ (by decide)
    rw [sample_natural_times_L1_eq, cnd_decide, if_pos (by omega), rd_u1 (vd_get hx hi2), gd_pos (u1_len _)]
    simp only [u1, cel_zero, dI_int]
    have hs : o.take i ++ o.drop i = o := List.take_append_drop i o
    obtain ⟨o', h1, h2, h3, h4⟩ := times_L2 fu (n + 1) k1 xs ys hy i (vd xs i % nB) hm r (by omega) (o.drop i) (o.take i) 0 0 fu (by simp; omega) (by simp; omega) (by simp; omega) (by decide) (fun d h => hd d (List.mem_of_mem_take h)) (fun d h => hd d (List.mem_of_mem_drop h))
    rw [hs] at h4
    simp only [List.length_map]
    refine Eq.trans h4 ?_
    rw [times_L1 fu n xs ys hx hy hfu l1 l2 r o' (i + 1) k1 (by omega) (by omega) (by omega) h1]
    have e0 : vd ys 0 = valD nB ys := rfl
    have e1 : valD nB o = valD nB (o.take i) + nB ^ i * valD nB (o.drop i) := by
      conv => lhs; rw [← hs, valD_app, List.length_take, Nat.min_eq_left (by omega)]
    have e2 : valD nB o' + nB ^ (i + 1) * (vd xs (i + 1) * valD nB ys) = valD nB o + nB ^ i * (vd xs i * valD nB ys) := by
      rw [h3, e1, vd_succ hx, Nat.pow_succ, e0, Nat.add_zero, Nat.add_zero, Nat.add_assoc, Nat.add_assoc, Nat.mul_assoc (nB ^ i), ← Nat.mul_add, ← Nat.mul_add]
      congr 2
      rw [Nat.add_assoc]
      congr 1
      conv => rhs; rw [← Nat.mod_add_div (vd xs i) nB, Nat.add_mul]
      congr 1; ac_rfl
    rw [e2]

theorem times_ok (fu n v w : Nat) (hfu : 1000000 ≤ fu) (hv : v < nM) (hw : w < nM) :
    ev fu (n + 2) 109 [.list (nat v), .list (nat w)] [] = some ([.list (nat (v * w))], []) := by
  have l1 := nat_len_le hv
  have l2 := nat_len_le hw
  rw [sample_natural_times_eq]
  simp only [nat, List.length_map]
  rw [← Int.natCast_add, i64n (by omega), gd_pos (by omega), Int.toNat_natCast]
  have h := times_L1 fu n (digs nB v) (digs nB w) (Dg_digs v) (Dg_digs w) hfu l1 l2 (digs nB v).length (List.replicate (digs nB w).length 0) 0 fu (by simp) (by omega) (by omega) (by intro d hd; rw [(List.mem_replicate.1 hd).2]; decide)
  rw [valD_rep, vd_0, valD_digs nB2] at h
  simp only [Nat.pow_zero, Nat.zero_add, Nat.one_mul] at h
  have e : List.map u1 (List.replicate (digs nB w).length 0 ++ List.replicate (digs nB v).length 0) = List.replicate ((digs nB v).length + (digs nB w).length) (u1 0) := by
    rw [List.replicate_append_replicate, List.map_replicate, Nat.add_comm]
  rw [e] at h
  exact h

/-! ### Quotients -/
theorem div32_ok (fu n a b k : Nat) (ha : a < k) (hb : b < 4294967296) (hk : k < 4294967296) :
    ev fu (n + 1) 128 [.int .u32 a, .int .u32 b, .int .u32 k] [] = some ([.int .u32 (((a * 4294967296 + b) / k : Nat) : Int), .int .u32 (((a * 4294967296 + b) % k : Nat) : Int)], []) := by
  have hq : (a * 4294967296 + b) / k < 4294967296 := (Nat.div_lt_iff_lt_mul (by omega)).2 (by
    have := Nat.mul_le_mul_right 4294967296 (show a + 1 ≤ k from ha); omega)
  have hr : (a * 4294967296 + b) % k < k := Nat.mod_lt _ (by omega)
  rw [math_bits_Div32_eq, cnd_not, cnd_decide, if_neg (by omega), math_bits_Div32_J1_eq, decide_eq_false (by omega), cnd_false]
  rw [gd_pos (by decide), u64n (by omega), u64n (by omega), u64n (by omega), bit_or a b (by omega) hb, gd_pos (by omega), gd_pos (by omega)]
  have e1 : ((a * 4294967296 + b : Nat) : Int).tdiv (k : Int) = (((a * 4294967296 + b) / k : Nat) : Int) := rfl
  have e2 : ((a * 4294967296 + b : Nat) : Int).tmod (k : Int) = (((a * 4294967296 + b) % k : Nat) : Int) := rfl
  rw [e1, e2, u64n (by omega), u32mn, u32mn, Nat.mod_eq_of_lt hq, Nat.mod_eq_of_lt (show _ < 4294967296 by omega)]

theorem over_L1 (fu n : Nat) (xs : List Nat) (hx : Dg xs) (hfu : 1000000 ≤ fu) (l1 : xs.length ≤ 100) (k : Nat) (hk0 : 0 < k) (hk : k < 4294967296) : ∀ (i : Nat) (q : List Nat) (c k1 : Nat), i + q.length = xs.length → c < k → i < k1 → Dg q →
    sample_natural_over_L1 fu (n + 1) k1 (xs.map u1) k ((List.replicate i 0 ++ q).map u1) c ((i : Int) - 1) = some ([.list (nat (nB ^ i * valD nB q + (c * nB ^ i + valD nB (xs.take i)) / k))], [])
  | 0, q, c, k1 + 1, hl, hc, hk1, hd => by
    rw [sample_natural_over_L1_eq, cnd_decide, if_neg (by omega)]
    rw [List.replicate_zero, List.nil_append, cut_ok fu n q hd (by omega) hfu, rL_some]
    simp [valD, Nat.div_eq_of_lt hc]
  | i + 1, q, c, k1 + 1, hl, hc, hk1, hd => by
    have hi : i < xs.length := by omega
    have hb : xs[i] < 4294967296 := hx _ (List.getElem_mem hi)
    have hg : xs[i]? = some xs[i] := List.getElem?_eq_getElem hi
    have e0 : ((i + 1 : Nat) : Int) - 1 = (i : Int) := by omega
    rw [e0, sample_natural_over_L1_eq, cnd_decide, if_pos (by omega), rd_u1 hg, gd_pos (u1_len _)]
    simp only [u1, cel_zero, dI_int]
    rw [div32_ok fu n c xs[i] k hc hb hk]
    simp only [callE_some', unXN_nil, unC_cons, dI_int, unN_nil]
    have e1 : (List.replicate (i + 1) 0 ++ q).map u1 = (List.replicate i 0 ++ 0 :: q).map u1 := by
      rw [List.replicate_succ']; simp
    rw [e1, ixG_n (by simp), Int.toNat_natCast, rdN_u1 (x := 0) (by simp), ovr_u1]
    have hs := set_u1 (List.replicate i 0) q 0 ((c * 4294967296 + xs[i]) / k)
    rw [List.length_replicate] at hs
    have e2 : (List.replicate i 0 ++ [(c * 4294967296 + xs[i]) / k] ++ q).map u1 = (List.replicate i 0 ++ ((c * 4294967296 + xs[i]) / k) :: q).map u1 := by simp
    rw [hs, e2, w64 (by omega) (by omega)]
    have hq : (c * 4294967296 + xs[i]) / k < 4294967296 := (Nat.div_lt_iff_lt_mul (by omega)).2 (by
      have := Nat.mul_le_mul_right 4294967296 (show c + 1 ≤ k from hc); omega)
    rw [over_L1 fu n xs hx hfu l1 k hk0 hk i _ ((c * 4294967296 + xs[i]) % k) k1 (by simp; omega) (Nat.mod_lt _ hk0) (by omega) (by
      intro d h
      rcases List.mem_cons.1 h with h | h
      · subst h; exact hq
      · exact hd d h)]
    have e3 : valD nB (xs.take (i + 1)) = valD nB (xs.take i) + nB ^ i * xs[i] := by
      rw [List.take_add_one, hg, valD_app, List.length_take, Nat.min_eq_left (by omega)]
      simp [valD]
    have e4 : nB ^ i * valD nB ((c * 4294967296 + xs[i]) / k :: q) + ((c * 4294967296 + xs[i]) % k * nB ^ i + valD nB (xs.take i)) / k = nB ^ (i + 1) * valD nB q + (c * nB ^ (i + 1) + valD nB (xs.take (i + 1))) / k := by
      have m1 := Nat.div_add_mod (c * 4294967296 + xs[i]) k
      generalize (c * 4294967296 + xs[i]) / k = Q at *
      generalize (c * 4294967296 + xs[i]) % k = R at *
      rw [e3]
      have m2 : c * nB ^ (i + 1) + (valD nB (xs.take i) + nB ^ i * xs[i]) = R * nB ^ i + valD nB (xs.take i) + k * (nB ^ i * Q) := by
        have : (k * Q + R) * nB ^ i = (c * 4294967296 + xs[i]) * nB ^ i := by rw [m1]
        rw [Nat.add_mul, Nat.add_mul] at this
        have a1 : c * nB ^ (i + 1) = c * 4294967296 * nB ^ i := by rw [Nat.pow_succ, Nat.mul_comm (nB ^ i), Nat.mul_assoc]
        have a2 : k * (nB ^ i * Q) = k * Q * nB ^ i := by ac_rfl
        have a3 : nB ^ i * xs[i] = xs[i] * nB ^ i := Nat.mul_comm ..
        rw [a1, a2, a3]; omega
      rw [m2, Nat.add_mul_div_left _ _ hk0]
      simp only [valD]
      rw [Nat.mul_add, Nat.pow_succ, Nat.mul_assoc]; omega
    rw [e4]

theorem over_ok (fu n v k : Nat) (hfu : 1000000 ≤ fu) (hv : v < nM) (hk0 : 0 < k) (hk : k < 4294967296) :
    ev fu (n + 2) 123 [.list (nat v), .int .u32 k] [] = some ([.list (nat (v / k))], []) := by
  have l1 := nat_len_le hv
  rw [sample_natural_over_eq]
  simp only [nat, List.length_map]
  rw [gd_pos (by omega), Int.toNat_natCast, w64 (by omega) (by omega)]
  have h := over_L1 fu n (digs nB v) (Dg_digs v) hfu l1 k hk0 hk (digs nB v).length [] 0 fu (by simp) hk0 (by omega) (by intro d hd; cases hd)
  simp only [List.append_nil, List.map_replicate, valD, Nat.mul_zero, Nat.zero_mul, Nat.zero_add, List.take_length, valD_digs nB2] at h
  exact h

end Go.Pv
