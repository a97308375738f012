/- Hashes and keys; what is drawn. -/
import Derived.Test.YtoakchnegkmepaaS4
set_option linter.unusedSimpArgs false
set_option linter.unusedVariables false
set_option maxRecDepth 100000
namespace Go.Pv
open Go Go.Proofs

/-! ### Hashes -/
theorem xor64 (a b : Nat) (ha : a < 4294967296) (hb : b < 4294967296) : bitI .xor .u64 (a : Int) (b : Int) = ((a ^^^ b : Nat) : Int) := by
  have hx : a ^^^ b < 2 ^ 32 := Nat.xor_lt_two_pow ha hb
  have n1 : ((a : Int) % ((2 ^ 64 : Nat) : Int)).toNat = a := by omega
  have n2 : ((b : Int) % ((2 ^ 64 : Nat) : Int)).toNat = b := by omega
  have n3 : bitI .xor .u64 (a : Int) (b : Int) = IntKind.u64.wrap ((BitVec.ofInt 64 (a : Int) ^^^ BitVec.ofInt 64 (b : Int)).toNat : Int) := rfl
  rw [n3, BitVec.toNat_xor, BitVec.toNat_ofInt, BitVec.toNat_ofInt, n1, n2]
  exact u64n (by omega)
theorem xor32 (a b : Nat) (ha : a < 4294967296) (hb : b < 4294967296) : bitI .xor .u32 (a : Int) (b : Int) = ((a ^^^ b : Nat) : Int) := by
  have hx : a ^^^ b < 2 ^ 32 := Nat.xor_lt_two_pow ha hb
  have n1 : ((a : Int) % ((2 ^ 32 : Nat) : Int)).toNat = a := by omega
  have n2 : ((b : Int) % ((2 ^ 32 : Nat) : Int)).toNat = b := by omega
  have n3 : bitI .xor .u32 (a : Int) (b : Int) = IntKind.u32.wrap ((BitVec.ofInt 32 (a : Int) ^^^ BitVec.ofInt 32 (b : Int)).toNat : Int) := rfl
  rw [n3, BitVec.toNat_xor, BitVec.toNat_ofInt, BitVec.toNat_ofInt, n1, n2, u32mn, Nat.mod_eq_of_lt (by omega)]
theorem xlt {a b : Nat} (ha : a < 4294967296) (hb : b < 4294967296) : a ^^^ b < 4294967296 := Nat.xor_lt_two_pow (n := 32) ha hb
theorem shr32_15 (n : Nat) : shrV .u32 (n : Int) 15 = ((n / 32768 : Nat) : Int) := by
  have e : ((2 : Int) ^ (min (15 : Int).toNat IntKind.u32.bits)) = 32768 := by decide
  unfold shrV
  rw [e, Int.fdiv_eq_ediv_of_nonneg _ (by omega)]; omega
theorem shr32_13 (n : Nat) : shrV .u32 (n : Int) 13 = ((n / 8192 : Nat) : Int) := by
  have e : ((2 : Int) ^ (min (13 : Int).toNat IntKind.u32.bits)) = 8192 := by decide
  unfold shrV
  rw [e, Int.fdiv_eq_ediv_of_nonneg _ (by omega)]; omega

def hmix1 (h : Nat) : Nat := (h ^^^ h / 32768) * 2246822519 % 4294967296
def hfin (h : Nat) : Nat := hmix1 (hmix1 h) ^^^ hmix1 (hmix1 h) / 8192
def hbyte (h x : Nat) : Nat := (h ^^^ x) * 16777619 % 4294967296
theorem hmix1_lt (h : Nat) : hmix1 h < 4294967296 := Nat.mod_lt _ (by decide)
theorem hbyte_lt (h x : Nat) : hbyte h x < 4294967296 := Nat.mod_lt _ (by decide)
theorem hfin_lt (h : Nat) : hfin h < 4294967296 := xlt (hmix1_lt _) (by have := hmix1_lt (hmix1 h); omega)
theorem byteRow_rd {α : Type} (b : ByteArray) {i : Nat} (h : i < b.size) (K : List MV → Option α) : rd (byteRow b) (i : Int) K = K [.int .u8 ((b.data.toList[i]'(by simpa using h)).toNat : Int)] :=
  rd_nat (by rw [byteRow_get, List.getElem?_eq_getElem (by simpa using h)]; rfl) K

theorem hash_L2 (fu n c k1 : Nat) (hc : c < 4294967296) (hk : 3 ≤ k1) : sample_hash_L2 fu n k1 c 0 = some ([.int .i64 (hfin c : Nat)], []) := by
  obtain ⟨k, rfl⟩ : ∃ k, k1 = k + 1 + 1 + 1 := ⟨k1 - 3, by omega⟩
  have st : ∀ (c k : Nat) (j : Int), c < 4294967296 → j < 2 → sample_hash_L2 fu n (k + 1) c j = sample_hash_L2 fu n k (hmix1 c : Nat) (IntKind.i64.wrap (j + 1)) := by
    intro c k j hc hj
    rw [sample_hash_L2_eq, cnd_decide, if_pos hj, gd_pos (by decide), shr32_15, xor32 _ _ hc (by omega)]
    have e : ((c ^^^ c / 32768 : Nat) : Int) * 2246822519 = (((c ^^^ c / 32768) * 2246822519 : Nat) : Int) := by omega
    rw [e, u32mn]; rfl
  have w1 : IntKind.i64.wrap ((0 : Int) + 1) = 1 := by decide
  have w2 : IntKind.i64.wrap ((1 : Int) + 1) = 2 := by decide
  rw [st c _ 0 hc (by omega), w1, st _ _ 1 (hmix1_lt _) (by omega), w2, sample_hash_L2_eq, cnd_decide, if_neg (by omega), gd_pos (by decide), shr32_13, xor32 _ _ (hmix1_lt _) (by have := hmix1_lt (hmix1 c); omega), i64n (by have := hfin_lt c; unfold hfin at this; omega)]
  rfl
theorem HashOf_1_ok (fu n x : Nat) : ev fu (n + 1) 114 [.int .u64 x] [] = some ([.int .u64 (x % 4294967296 : Nat)], []) := by
  rw [chaseref2_HashOf_1_eq, gd_pos (by decide)]
  exact rfl
theorem HashOf_L2 (fu n c k1 : Nat) (hc : c < 4294967296) (hk : 3 ≤ k1) : chaseref2_HashOf_L2 fu (n + 1) k1 c 0 = some ([.int .i64 (hfin c : Nat)], []) := by
  obtain ⟨k, rfl⟩ : ∃ k, k1 = k + 1 + 1 + 1 := ⟨k1 - 3, by omega⟩
  have st : ∀ (c k : Nat) (j : Int), c < 4294967296 → j < 2 → chaseref2_HashOf_L2 fu (n + 1) (k + 1) c j = chaseref2_HashOf_L2 fu (n + 1) k (hmix1 c : Nat) (IntKind.i64.wrap (j + 1)) := by
    intro c k j hc hj
    have e0 : ((c : Int)).tdiv 32768 = ((c / 32768 : Nat) : Int) := rfl
    have hx := xlt hc (show c / 32768 < 4294967296 by omega)
    rw [chaseref2_HashOf_L2_eq, cnd_decide, if_pos hj, gd_pos (by decide), e0, u64n (by omega), xor64 _ _ hc (by omega)]
    have e : ((c ^^^ c / 32768 : Nat) : Int) * 2246822519 = (((c ^^^ c / 32768) * 2246822519 : Nat) : Int) := by omega
    rw [e, u64n (by omega), HashOf_1_ok, rI_some]; rfl
  have w1 : IntKind.i64.wrap ((0 : Int) + 1) = 1 := by decide
  have w2 : IntKind.i64.wrap ((1 : Int) + 1) = 2 := by decide
  have e0 : ((hmix1 (hmix1 c) : Nat) : Int).tdiv 8192 = ((hmix1 (hmix1 c) / 8192 : Nat) : Int) := rfl
  have hl := hmix1_lt (hmix1 c)
  rw [st c _ 0 hc (by omega), w1, st _ _ 1 (hmix1_lt _) (by omega), w2, chaseref2_HashOf_L2_eq, cnd_decide, if_neg (by omega), gd_pos (by decide), e0, u64n (by omega), xor64 _ _ hl (by omega), i64n (by have := hfin_lt c; unfold hfin at this; omega)]
  rfl
/-- The bytes from a place on. -/
def hrun (l : List UInt8) (h : Nat) : Nat := l.foldl (fun h x => hbyte h x.toNat) h
theorem hrun_cons (x : UInt8) (r : List UInt8) (h : Nat) : hrun (x :: r) h = hrun r (hbyte h x.toNat) := by unfold hrun; rw [List.foldl_cons]
theorem hrun_nil (h : Nat) : hrun [] h = h := by unfold hrun; rw [List.foldl_nil]
theorem u8lt (x : UInt8) : x.toNat < 256 := x.toNat_lt
theorem hash_L1 (fu n : Nat) (b : ByteArray) (hb : b.size ≤ 100000) (hfu : 1000000 ≤ fu) : ∀ (m i c k1 : Nat), i + m = b.size → m < k1 → c < 4294967296 →
    sample_hash_L1 fu n k1 c (byteRow b) (b.size : Nat) i = some ([.int .i64 (hfin (hrun (b.data.toList.drop i) c) : Nat)], [])
  | m, i, c, 0, hi, hk, hc => by omega
  | 0, i, c, k1 + 1, hi, hk, hc => by
    rw [sample_hash_L1_eq, cnd_decide, if_neg (by omega), List.drop_of_length_le (by simp; omega), hrun_nil]
    exact hash_L2 fu n c fu hc (by omega)
  | m + 1, i, c, k1 + 1, hi, hk, hc => by
    have h : i < b.size := by omega
    have hx := u8lt (b.data.toList[i]'(by simpa using h))
    rw [sample_hash_L1_eq, cnd_decide, if_pos (by omega), byteRow_rd b h, gd_pos (by simp)]
    simp only [cel_zero, dI_int]
    rw [u32mn, Nat.mod_eq_of_lt (by omega), xor32 _ _ hc (by omega), i64s (by omega)]
    have e : ((c ^^^ (b.data.toList[i]'(by simpa using h)).toNat : Nat) : Int) * 16777619 = (((c ^^^ (b.data.toList[i]'(by simpa using h)).toNat) * 16777619 : Nat) : Int) := by omega
    rw [e, u32mn, List.drop_eq_getElem_cons (by simpa using h), hrun_cons, hbyte]
    exact hash_L1 fu n b hb hfu m (i + 1) _ k1 (by omega) (by omega) (hbyte_lt _ _)
theorem HashOf_L1 (fu n : Nat) (b : ByteArray) (hb : b.size ≤ 100000) (hfu : 1000000 ≤ fu) : ∀ (m i c k1 : Nat), i + m = b.size → m < k1 → c < 4294967296 →
    chaseref2_HashOf_L1 fu (n + 1) k1 c (byteRow b) (b.size : Nat) i = some ([.int .i64 (hfin (hrun (b.data.toList.drop i) c) : Nat)], [])
  | m, i, c, 0, hi, hk, hc => by omega
  | 0, i, c, k1 + 1, hi, hk, hc => by
    rw [chaseref2_HashOf_L1_eq, cnd_decide, if_neg (by omega), List.drop_of_length_le (by simp; omega), hrun_nil]
    exact HashOf_L2 fu n c fu hc (by omega)
  | m + 1, i, c, k1 + 1, hi, hk, hc => by
    have h : i < b.size := by omega
    have hx := u8lt (b.data.toList[i]'(by simpa using h))
    have hxl := xlt hc (show (b.data.toList[i]'(by simpa using h)).toNat < 4294967296 by omega)
    rw [chaseref2_HashOf_L1_eq, cnd_decide, if_pos (by omega), byteRow_rd b h, gd_pos (by simp)]
    simp only [cel_zero, dI_int]
    rw [u64n (by omega), xor64 _ _ hc (by omega), i64s (by omega)]
    have e : ((c ^^^ (b.data.toList[i]'(by simpa using h)).toNat : Nat) : Int) * 16777619 = (((c ^^^ (b.data.toList[i]'(by simpa using h)).toNat) * 16777619 : Nat) : Int) := by omega
    rw [e, u64n (by omega), HashOf_1_ok, rI_some, List.drop_eq_getElem_cons (by simpa using h), hrun_cons, hbyte]
    exact HashOf_L1 fu n b hb hfu m (i + 1) _ k1 (by omega) (by omega) (hbyte_lt _ _)
/-- The hash of an id and a seed. -/
def hashN (id seed : ByteArray) : Nat := hfin (hrun (((seed ++ (⟨#[32]⟩ : ByteArray)) ++ id).data.toList) 2166136261)
theorem hash_ok (fu n : Nat) (id seed : ByteArray) (hfu : 1000000 ≤ fu) (h1 : id.size ≤ 10000) (h2 : seed.size ≤ 10000) :
    ev fu (n + 1) 113 [.str id, .str seed] [] = some ([.int .i64 (hashN id seed : Nat)], []) := by
  have hs : ((⟨#[32]⟩ : ByteArray)).size = 1 := rfl
  have hz : ((seed ++ (⟨#[32]⟩ : ByteArray)) ++ id).size = seed.size + 1 + id.size := by rw [ByteArray.size_append, ByteArray.size_append, hs]
  have h := hash_L1 fu n ((seed ++ (⟨#[32]⟩ : ByteArray)) ++ id) (by omega) hfu _ 0 2166136261 fu (Nat.zero_add _) (by omega) (by decide)
  rw [sample_hash_eq, stG_pos (by omega), stG_pos (by rw [ByteArray.size_append]; omega), byteRow_len]
  exact h
theorem HashOf_ok (fu n : Nat) (id seed : ByteArray) (hfu : 1000000 ≤ fu) (h1 : id.size ≤ 10000) (h2 : seed.size ≤ 10000) :
    ev fu (n + 2) 77 [.str id, .str seed] [] = some ([.int .i64 (hashN id seed : Nat)], []) := by
  have hs : ((⟨#[32]⟩ : ByteArray)).size = 1 := rfl
  have hz : ((seed ++ (⟨#[32]⟩ : ByteArray)) ++ id).size = seed.size + 1 + id.size := by rw [ByteArray.size_append, ByteArray.size_append, hs]
  have h := HashOf_L1 fu n ((seed ++ (⟨#[32]⟩ : ByteArray)) ++ id) (by omega) hfu _ 0 2166136261 fu (Nat.zero_add _) (by omega) (by decide)
  rw [chaseref2_HashOf_eq, stG_pos (by omega), stG_pos (by rw [ByteArray.size_append]; omega), byteRow_len]
  exact h

/-! ### Keys -/
theorem small_ok (fu n : Nat) (x : Int) : ev fu (n + 1) 129 [.int .u8 x] [] = some ([.bool (inB x 97 122)], []) := by
  rw [base_small_eq, cnd_decide]; unfold inB
  by_cases h : 97 ≤ x
  · rw [if_pos h]; simp [h]
  · rw [if_neg h]; simp [h]
theorem Digit_ok (fu n : Nat) (x : Int) : ev fu (n + 1) 130 [.int .u8 x] [] = some ([.bool (inB x 48 57)], []) := by
  rw [base_Digit_eq, cnd_decide]; unfold inB
  by_cases h : 48 ≤ x
  · rw [if_pos h]; simp [h]
  · rw [if_neg h]; simp [h]
def keyC (x : Int) : Bool := inB x 97 122 || (inB x 48 57 || (decide (x = 45) || decide (x = 95)))
def keyFrom (s : ByteArray) (i : Nat) : Nat → Bool
  | 0 => true
  | m + 1 => keyC (bAt s i) && keyFrom s (i + 1) m
def keyS (s : ByteArray) : Bool := inB s.size 1 40 && (inB (bAt s 0) 97 122 && keyFrom s 0 s.size)
theorem Key_L1 (fu n : Nat) (s : ByteArray) (hs : s.size ≤ 100000) : ∀ (m i k1 : Nat), i + m = s.size → m < k1 →
    base_Key_L1 fu (n + 1) k1 s (s.size : Nat) i = some ([.bool (keyFrom s i m)], [])
  | m, i, 0, hi, hk => by omega
  | 0, i, k1 + 1, hi, hk => by rw [base_Key_L1_eq, cnd_decide, if_neg (by omega)]; rfl
  | m + 1, i, k1 + 1, hi, hk => by
    rw [base_Key_L1_eq, cnd_decide, if_pos (by omega), ixS_pos (by omega) (by omega), small_ok, rB_some, Digit_ok, rB_some, Int.toNat_natCast]
    simp only [cnd_not]
    rw [i64s (by omega), Key_L1 fu n s hs m (i + 1) k1 (by omega) (by omega), keyFrom]
    unfold keyC
    cases inB (bAt s i) 97 122 <;> cases inB (bAt s i) 48 57 <;> cases decide (bAt s i = 45) <;> cases decide (bAt s i = 95) <;> rfl
theorem Key_ok (fu n : Nat) (s : ByteArray) (hs : s.size ≤ 100000) (hfu : 1000000 ≤ fu) :
    ev fu (n + 2) 125 [.str s] [] = some ([.bool (keyS s)], []) := by
  rw [base_Key_eq, In_ok, rB_some, cnd_not]
  unfold keyS
  by_cases h : inB (s.size : Int) 1 40 = true
  · have hb : 1 ≤ (s.size : Int) := by simp [inB] at h; omega
    have hl := Key_L1 fu n s hs s.size 0 fu (by omega) (by omega)
    rw [h, cnd_true, ixS_pos (by omega) (by show 0 < s.size; omega), small_ok, rB_some, cnd_not]
    cases hx : inB (bAt s 0) 97 122
    · have hx2 : inB (bAt s (0 : Int).toNat) 97 122 = false := hx
      rw [hx2, cnd_false]; exact rfl
    · have hx2 : inB (bAt s (0 : Int).toNat) 97 122 = true := hx
      rw [hx2, cnd_true]
      exact hl
  · rw [Bool.eq_false_iff.2 h, cnd_false]; exact rfl
theorem keyError_ok (fu n : Nat) (s : ByteArray) (hs : s.size ≤ 100000) (hfu : 1000000 ≤ fu) :
    ev fu (n + 3) 112 [.str s] [] = some ([.int .i64 (if keyS s then 0 else 5)], []) := by
  rw [sample_keyError_eq, Key_ok fu n s hs hfu, rB_some, When_ok, rI_some]
  cases keyS s <;> rfl
theorem Hash_ok (fu n : Nat) (id seed : ByteArray) (h1 : id.size ≤ 10000) (h2 : seed.size ≤ 10000) (hfu : 1000000 ≤ fu) :
    ev fu (n + 4) 76 [.str id, .str seed] [] = some (if fnz [if keyS id then 0 else 5, if keyS seed then 0 else 5] = 0 then [.int .i64 (hashN id seed : Nat), .int .i64 0] else [.int .i64 0, .int .i64 (fnz [if keyS id then 0 else 5, if keyS seed then 0 else 5])], []) := by
  have hf := First_ok fu (n + 2) [if keyS id then 0 else 5, if keyS seed then 0 else 5] hfu (by simp)
  simp only [List.map_cons, List.map_nil, i1] at hf
  rw [sample_Hash_eq, keyError_ok fu n id (by omega) hfu, rI_some, keyError_ok fu n seed (by omega) hfu, rI_some, hf, rI_some, hash_ok fu (n + 2) id seed hfu h1 h2, rI_some, cnd_not, cnd_decide]
  generalize fnz [if keyS id then 0 else 5, if keyS seed then 0 else 5] = e
  by_cases he : e = 0
  · rw [if_pos he, if_pos he]
  · rw [if_neg he, if_neg he]

/-! ### Whether the package counts -/
theorem drawn_ok (fu n : Nat) (hfu : 1000000 ≤ fu) : ev fu (n + 10) 22 [] [] = some ([.bool true], []) := by
  have h1 := Hash_ok fu (n + 5) (⟨#[97]⟩ : ByteArray) (⟨#[98]⟩ : ByteArray) (by decide) (by decide) hfu
  have k1 : keyS (⟨#[97]⟩ : ByteArray) = true := by decide
  have k2 : keyS (⟨#[98]⟩ : ByteArray) = true := by decide
  rw [k1, k2, if_pos rfl, if_pos (by decide)] at h1
  have h2 := HashOf_ok fu (n + 7) (⟨#[97]⟩ : ByteArray) (⟨#[98]⟩ : ByteArray) hfu (by decide) (by decide)
  have h3 := Most_ok fu n 4 4 3 1 2 1 hfu (by decide) (by decide) (by decide) (by decide) (by decide) (by decide) (by decide)
  have e3 : mostN 4 4 3 2 1 = 3 := by decide
  rw [e3] at h3
  have e4 : ([.agg (drw ((4 : Nat) : Int) ((4 : Nat) : Int) ((3 : Nat) : Int)), .agg (lvl ((1 : Nat) : Int) ((2 : Nat) : Int))] : List MV) = [.agg [.int .i64 4, .int .i64 4, .int .i64 3], .agg [.int .i64 1, .int .i64 2]] := rfl
  rw [e4] at h3
  rw [chaselaw2_drawn_eq, h1]
  simp only [callE_some', unXN_nil, unC_cons, dI_int, unN_nil, h3, h2, rI_some, cnd_decide]
  exact rfl

end Go.Pv
