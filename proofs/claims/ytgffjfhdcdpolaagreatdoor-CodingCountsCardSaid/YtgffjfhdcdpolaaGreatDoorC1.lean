/- Laws that many chapters use: loops, rows, first errors, keys, strings of streams. -/
import Derived.Test.YtgffjfhdcdpolaaGreatDoorS1
import Derived.Test.YtgffjfhdcdpolaaGreatDoorH1
set_option linter.unusedSimpArgs false
set_option linter.unusedVariables false
set_option maxRecDepth 100000
namespace Go.Pv
open Go Go.Proofs

section
variable {α : Type}
@[simp] theorem cel_1 (a b : MV) (r : List MV) (K : MV → Option α) : cel (a :: b :: r) 1 K = K b := rfl
@[simp] theorem cel_2 (a b c : MV) (r : List MV) (K : MV → Option α) : cel (a :: b :: c :: r) 2 K = K c := rfl
@[simp] theorem cel_3 (a b c d : MV) (r : List MV) (K : MV → Option α) : cel (a :: b :: c :: d :: r) 3 K = K d := rfl
@[simp] theorem cel_4 (a b c d e : MV) (r : List MV) (K : MV → Option α) : cel (a :: b :: c :: d :: e :: r) 4 K = K e := rfl
theorem slS_pos {s : ByteArray} {l h : Int} (h1 : 0 ≤ l ∧ l ≤ h ∧ h ≤ (s.size : Int)) (K : ByteArray → Option α) : slS s l h K = K (s.extract l.toNat h.toNat) := if_pos h1
theorem slL_pos {sz : Nat} {es : List (List MV)} {l h : Int} (h1 : 0 ≤ l ∧ l ≤ h ∧ h ≤ (es.length : Int)) (h2 : widAt sz es l.toNat = true) (K : List (List MV) → Option α) : slL sz es l h K = K ((es.drop l.toNat).take (h.toNat - l.toNat)) := if_pos ⟨h1, h2⟩
theorem i64s {n : Nat} (h : n < 9223372036854775807) : IntKind.i64.wrap ((n : Int) + 1) = ((n + 1 : Nat) : Int) := by rw [w64 (by omega) (by omega)]; omega
theorem rdm {β : Type} {f : β → List MV} {xs : List β} {i : Nat} (h : i < xs.length) (K : List MV → Option α) : rd (xs.map f) (i : Int) K = K (f xs[i]) := rd_nat (by simp [h]) K
theorem slL_take {β : Type} {sz : Nat} {f : β → List MV} (hf : ∀ x, (f x).length = sz) (xs : List β) {i : Nat} (h : i ≤ xs.length) (K : List (List MV) → Option α) : slL sz (xs.map f) ((0 : Nat) : Int) (i : Int) K = K ((xs.take i).map f) := by
  rw [slL_pos (by simp; omega) (by
    unfold widAt
    cases xs with
    | nil => rfl
    | cons a r => simp [hf])]
  simp [List.map_take]
theorem wid_map {β : Type} {sz : Nat} {f : β → List MV} (hf : ∀ x, (f x).length = sz) : ∀ (xs : List β), wid sz (xs.map f) = true
  | [] => rfl
  | a :: r => by
    simp only [List.map_cons, wid, hf]
    rw [show Nat.beq sz sz = true from Nat.beq_refl sz]
    exact wid_map hf r

/-! ### Loops -/
/-- A loop that goes through a row: each round ends it or goes on. -/
def runL {σ : Type} (step : Nat → σ → α → Out ⊕ σ) (fin : σ → Out) : Nat → σ → List α → Out
  | _, s, [] => fin s
  | i, s, x :: r => match step i s x with
    | .inl o => o
    | .inr s' => runL step fin (i + 1) s' r
theorem loop_ok {σ : Type} (xs : List α) (Inv : Nat → σ → Prop) (L : Nat → Int → σ → Out) (step : Nat → σ → α → Out ⊕ σ) (fin : σ → Out)
    (h0 : ∀ k s, Inv xs.length s → L (k + 1) (xs.length : Nat) s = fin s)
    (h1 : ∀ k (i : Nat) s (hi : i < xs.length), Inv i s → L (k + 1) i s = (match step i s xs[i] with | .inl o => o | .inr s' => L k ((i + 1 : Nat) : Int) s'))
    (h2 : ∀ (i : Nat) s s' (hi : i < xs.length), Inv i s → step i s xs[i] = .inr s' → Inv (i + 1) s') :
    ∀ (m i k : Nat) (s : σ), i + m = xs.length → m < k → Inv i s → L k i s = runL step fin i s (xs.drop i)
  | m, i, 0, s, hi, hk, hs => by omega
  | 0, i, k + 1, s, hi, hk, hs => by
    have : i = xs.length := by omega
    subst this
    rw [h0 k s hs, List.drop_of_length_le (Nat.le_refl _)]; rfl
  | m + 1, i, k + 1, s, hi, hk, hs => by
    have hlt : i < xs.length := by omega
    rw [h1 k i s hlt hs, List.drop_eq_getElem_cons hlt, runL]
    split
    · rfl
    · rename_i s' e
      exact loop_ok xs Inv L step fin h0 h1 h2 m (i + 1) k s' (by omega) (by omega) (h2 i s s' hlt hs e)

/-- The first error of a row; what is kept meanwhile. -/
def errL {σ : Type} (f : Nat → σ → α → Int) (nx : Nat → σ → α → σ) : Nat → σ → List α → Int × σ
  | _, s, [] => (0, s)
  | i, s, x :: r => if f i s x = 0 then errL f nx (i + 1) (nx i s x) r else (f i s x, s)
def errO (e : Int) (o : Out) : Out := if e = 0 then o else some ([.int .i64 e], [])
theorem errO_0 (o : Out) : errO 0 o = o := rfl
theorem err_loop {σ : Type} (xs : List α) (L : Nat → Int → σ → Out) (f : Nat → σ → α → Int) (nx : Nat → σ → α → σ) (fin : σ → Out)
    (h0 : ∀ k s, L (k + 1) (xs.length : Nat) s = fin s)
    (h1 : ∀ k (i : Nat) s (hi : i < xs.length), L (k + 1) i s = errO (f i s xs[i]) (L k ((i + 1 : Nat) : Int) (nx i s xs[i]))) :
    ∀ (m i k : Nat) (s : σ), i + m = xs.length → m < k → L k i s = errO (errL f nx i s (xs.drop i)).1 (fin (errL f nx i s (xs.drop i)).2)
  | m, i, 0, s, hi, hk => by omega
  | 0, i, k + 1, s, hi, hk => by
    have : i = xs.length := by omega
    subst this
    rw [h0 k s, List.drop_of_length_le (Nat.le_refl _)]; rfl
  | m + 1, i, k + 1, s, hi, hk => by
    have hlt : i < xs.length := by omega
    rw [h1 k i s hlt, List.drop_eq_getElem_cons hlt, errL]
    by_cases e : f i s xs[i] = 0
    · rw [if_pos e, e, errO_0]
      exact err_loop xs L f nx fin h0 h1 m (i + 1) k _ (by omega) (by omega)
    · rw [if_neg e]
      show errO _ _ = errO (f i s xs[i]) (fin s)
      unfold errO; rw [if_neg e, if_neg e]
theorem errL_congr {σ : Type} {f g : Nat → σ → α → Int} {nx : Nat → σ → α → σ} : ∀ (xs : List α) (i : Nat) (s : σ), (∀ (j : Nat) (s : σ) (x : α), xs[j]? = some x → f (i + j) s x = g (i + j) s x) → errL f nx i s xs = errL g nx i s xs
  | [], i, s, h => rfl
  | x :: r, i, s, h => by
    have h0 := h 0 s x rfl
    simp only [Nat.add_zero] at h0
    unfold errL
    rw [h0]
    split
    · exact errL_congr r (i + 1) _ (fun j s y hy => by
        have := h (j + 1) s y (by simpa using hy)
        rw [show i + (j + 1) = i + 1 + j by omega] at this; exact this)
    · rfl

/-- The place of the first that is so; -1: there is none. -/
def fIx (p : α → Bool) : Nat → List α → Int
  | _, [] => -1
  | i, x :: r => if p x then (i : Int) else fIx p (i + 1) r
theorem fIx_any (p : α → Bool) : ∀ (xs : List α) (i : Nat), decide (0 ≤ fIx p i xs) = xs.any p
  | [], i => rfl
  | x :: r, i => by
    unfold fIx
    rw [List.any_cons]
    cases h : p x with
    | true => simp
    | false => simp [fIx_any p r (i + 1)]
theorem fIx_ge (p : α → Bool) : ∀ (xs : List α) (i : Nat), fIx p i xs = -1 ∨ ((i : Int) ≤ fIx p i xs ∧ fIx p i xs < (i + xs.length : Nat))
  | [], i => .inl rfl
  | x :: r, i => by
    unfold fIx
    split
    · exact .inr ⟨Int.le_refl _, by simp; omega⟩
    · rcases fIx_ge p r (i + 1) with h | ⟨h1, h2⟩
      · exact .inl h
      · exact .inr ⟨by omega, by simp at h2 ⊢; omega⟩
theorem fIx_range (p : α → Bool) (xs : List α) (h : 0 ≤ fIx p 0 xs) : (fIx p 0 xs).toNat < xs.length := by
  rcases fIx_ge p xs 0 with h1 | ⟨h1, h2⟩
  · omega
  · omega
theorem fIx_get (p : α → Bool) : ∀ (xs : List α) (i : Nat), 0 ≤ fIx p i xs → ∃ x, xs[(fIx p i xs).toNat - i]? = some x ∧ p x = true
  | [], i, h => by simp [fIx] at h
  | x :: r, i, h => by
    unfold fIx at h ⊢
    by_cases hp : p x = true
    · rw [if_pos hp]; exact ⟨x, by simp, hp⟩
    · rw [if_neg hp] at h ⊢
      obtain ⟨y, h1, h2⟩ := fIx_get p r (i + 1) h
      refine ⟨y, ?_, h2⟩
      rcases fIx_ge p r (i + 1) with h3 | ⟨h3, h4⟩
      · omega
      · rw [show (fIx p (i + 1) r).toNat - i = (fIx p (i + 1) r).toNat - (i + 1) + 1 by omega, List.getElem?_cons_succ]; exact h1
/-- Is it there before place k? -/
theorem fIx_lt (p : α → Bool) : ∀ (xs : List α) (i k : Nat), (∃ x, xs[k]? = some x ∧ p x = true) → decide (fIx p i xs < ((i + k : Nat) : Int)) = (xs.take k).any p
  | [], i, k, ⟨x, h, _⟩ => by simp at h
  | y :: r, i, 0, ⟨x, h, hp⟩ => by
    simp at h; subst h
    unfold fIx; rw [if_pos hp]; simp
  | y :: r, i, k + 1, ⟨x, h, hp⟩ => by
    unfold fIx
    rw [List.take_succ_cons, List.any_cons]
    cases hy : p y with
    | true => rw [if_pos rfl]; simp; omega
    | false =>
      have := fIx_lt p r (i + 1) k ⟨x, by simpa using h, hp⟩
      rw [show i + 1 + k = i + (k + 1) by omega] at this
      rw [if_neg (by simp), Bool.false_or]; exact this
end

/-! ### First errors -/
@[simp] theorem i1_len (x : Int) : (i1 x).length = 1 := rfl
/-- The first that is not zero. -/
def fnz : List Int → Int
  | [] => 0
  | x :: r => if x = 0 then fnz r else x
theorem First_ok (fu n : Nat) (xs : List Int) (hfu : 1000000 ≤ fu) (hl : xs.length ≤ 400000) :
    ev fu (n + 1) 70 [.list (xs.map i1)] [] = some ([.int .i64 (fnz xs)], []) := by
  have h := err_loop xs (fun k i (_ : Unit) => base_First_L1 fu n k (xs.map i1) (xs.length : Nat) i) (fun _ _ x => x) (fun _ s _ => s) (fun _ => some ([.int .i64 0], []))
    (fun k s => by rw [base_First_L1_eq, cnd_decide, if_neg (by omega)])
    (fun k i s hi => by
      rw [base_First_L1_eq, cnd_decide, if_pos (by omega), rdm hi, gd_pos (i1_len _)]
      simp only [i1, cel_zero, dI_int, cnd_not, cnd_decide]
      rw [i64s (by omega)]; rfl) xs.length 0 fu () (by omega) (by omega)
  rw [base_First_eq, List.length_map]
  refine h.trans ?_
  rw [List.drop_zero]
  have e : ∀ (l : List Int) (i : Nat), (errL (σ := Unit) (fun _ _ x => x) (fun _ s _ => s) i () l).1 = fnz l := by
    intro l
    induction l with
    | nil => intro i; rfl
    | cons a r ih =>
      intro i
      unfold errL fnz
      split
      · exact ih (i + 1)
      · rfl
  rw [e xs 0]
  unfold errO
  split
  · rename_i h; rw [h]
  · rfl
theorem When_ok (fu n : Nat) (b : Bool) (e : Int) : ev fu (n + 1) 85 [.bool b, .int .i64 e] [] = some ([.int .i64 (if b then e else 0)], []) := by
  rw [base_When_eq]; cases b <;> exact rfl
def inB (x a b : Int) : Bool := decide (a ≤ x ∧ x ≤ b)
theorem In_ok (fu n : Nat) (x a b : Int) : ev fu (n + 1) 94 [.int .i64 x, .int .i64 a, .int .i64 b] [] = some ([.bool (inB x a b)], []) := by
  rw [base_In_eq, cnd_decide]; unfold inB
  by_cases h : a ≤ x
  · rw [if_pos h]; simp [h]
  · rw [if_neg h]; simp [h]
theorem in_ok (fu n : Nat) (x a b : Int) : ev fu (n + 1) 48 [.int .i64 x, .int .i64 a, .int .i64 b] [] = some ([.bool (inB x a b)], []) := by
  rw [chaseref2_in_eq, cnd_decide]; unfold inB
  by_cases h : a ≤ x
  · rw [if_pos h]; simp [h]
  · rw [if_neg h]; simp [h]

/-! ### Keys -/
theorem small_ok (fu n : Nat) (x : Int) : ev fu (n + 1) 123 [.int .u8 x] [] = some ([.bool (inB x 97 122)], []) := by
  rw [base_small_eq, cnd_decide]; unfold inB
  by_cases h : 97 ≤ x
  · rw [if_pos h]; simp [h]
  · rw [if_neg h]; simp [h]
theorem Digit_ok (fu n : Nat) (x : Int) : ev fu (n + 1) 124 [.int .u8 x] [] = some ([.bool (inB x 48 57)], []) := by
  rw [base_Digit_eq, cnd_decide]; unfold inB
  by_cases h : 48 ≤ x
  · rw [if_pos h]; simp [h]
  · rw [if_neg h]; simp [h]
def keyC (x : Int) : Bool := inB x 97 122 || (inB x 48 57 || (decide (x = 45) || decide (x = 95)))
def keyFrom (s : ByteArray) (i : Nat) : Nat → Bool
  | 0 => true
  | m + 1 => keyC (bAt s i) && keyFrom s (i + 1) m
def keyS (s : ByteArray) : Bool := inB s.size 1 40 && (inB (bAt s 0) 97 122 && keyFrom s 0 s.size)
theorem Key_L1 (fu n : Nat) (s : ByteArray) (hs : s.size ≤ 400000) : ∀ (m i k1 : Nat), i + m = s.size → m < k1 →
    base_Key_L1 fu (n + 1) k1 s (s.size : Nat) i = some ([.bool (keyFrom s i m)], [])
  | m, i, 0, hi, hk => by omega
  | 0, i, k1 + 1, hi, hk => by rw [base_Key_L1_eq, cnd_decide, if_neg (by omega)]; rfl
  | m + 1, i, k1 + 1, hi, hk => by
    rw [base_Key_L1_eq, cnd_decide, if_pos (by omega), ixS_pos (by omega) (by omega), small_ok, rB_some, Digit_ok, rB_some, Int.toNat_natCast]
    simp only [cnd_not]
    rw [i64s (by omega), Key_L1 fu n s hs m (i + 1) k1 (by omega) (by omega), keyFrom]
    unfold keyC
    cases inB (bAt s i) 97 122 <;> cases inB (bAt s i) 48 57 <;> cases decide (bAt s i = 45) <;> cases decide (bAt s i = 95) <;> rfl
theorem Key_ok (fu n : Nat) (s : ByteArray) (hfu : 1000000 ≤ fu) :
    ev fu (n + 2) 93 [.str s] [] = some ([.bool (keyS s)], []) := by
  rw [base_Key_eq, In_ok, rB_some, cnd_not]
  unfold keyS
  by_cases h : inB (s.size : Int) 1 40 = true
  · have hb : 1 ≤ (s.size : Int) ∧ (s.size : Int) ≤ 40 := by simp [inB] at h; omega
    have hl := Key_L1 fu n s (by omega) s.size 0 fu (by omega) (by omega)
    rw [h, cnd_true, ixS_pos (by omega) (by show 0 < s.size; omega), small_ok, rB_some, cnd_not]
    cases hx : inB (bAt s 0) 97 122
    · have hx2 : inB (bAt s (0 : Int).toNat) 97 122 = false := hx
      rw [hx2, cnd_false]; exact rfl
    · have hx2 : inB (bAt s (0 : Int).toNat) 97 122 = true := hx
      rw [hx2, cnd_true]
      exact hl
  · rw [Bool.eq_false_iff.2 h, cnd_false]; exact rfl

/-! #### As the reference tells them -/
theorem dw_nil {β : Type} (p : β → Bool) : ∀ l : List β, l.dropWhile p = [] ↔ ∀ x ∈ l, p x = true
  | [] => by simp
  | a :: r => by
    rw [List.dropWhile_cons]
    by_cases h : p a = true
    · rw [if_pos h, dw_nil p r]
      exact ⟨fun q x hx => (List.mem_cons.1 hx).elim (fun e => e ▸ h) (q x), fun q x hx => q x (List.mem_cons_of_mem _ hx)⟩
    · rw [if_neg h]
      exact ⟨fun q => (by cases q), fun q => absurd (q a (List.mem_cons_self ..)) h⟩
theorem dw_head {β : Type} (p : β → Bool) : ∀ (l : List β) (a : β) (r : List β), l.dropWhile p = a :: r → p a = false
  | [], a, r, h => by cases h
  | b :: l, a, r, h => by
    rw [List.dropWhile_cons] at h
    by_cases hb : p b = true
    · rw [if_pos hb] at h; exact dw_head p l a r h
    · rw [if_neg hb] at h; cases h; exact Bool.eq_false_iff.2 hb
theorem trim_nil (l cs : List UInt8) : Go.Lib.trimS l cs = [] ↔ ∀ b ∈ l, cs.contains b = true := by
  unfold Go.Lib.trimS Go.Lib.trimLeftS Go.Lib.trimRightS
  rw [dw_nil]
  constructor
  · intro h
    have h2 : ∀ x ∈ l.reverse.dropWhile (cs.contains ·), cs.contains x = true := fun x hx => h x (List.mem_reverse.2 hx)
    have h3 : l.reverse.dropWhile (cs.contains ·) = [] := by
      cases hd : l.reverse.dropWhile (cs.contains ·) with
      | nil => rfl
      | cons a r =>
        have hn := dw_head _ _ _ _ hd
        rw [hd] at h2
        rw [h2 a (List.mem_cons_self ..)] at hn; cases hn
    rw [dw_nil] at h3
    intro b hb; exact h3 b (List.mem_reverse.2 hb)
  · intro h x hx
    have h3 : l.reverse.dropWhile (cs.contains ·) = [] := (dw_nil _ _).2 fun b hb => h b (List.mem_reverse.1 hb)
    rw [h3] at hx; simp at hx
def allIn (s c : ByteArray) : Bool := s.data.toList.all (c.data.toList.contains ·)
theorem Trim_ev (fu n : Nat) (s c : ByteArray) (h : s.size ≤ 9223372036854775807 ∧ c.size < 4294967281 ∧ c.data.toList.all (fun b => decide (b.toNat < 128)) = true) : ev fu (n + 1) 129 [.str s, .str c] [] = some ([.str ⟨(Go.Lib.trimS s.data.toList c.data.toList).toArray⟩], []) := by
  have e : ev fu (n + 1) 129 [.str s, .str c] [] = trimH (evs fu n) [.str s, .str c] [] := rfl
  rw [e]; exact if_pos h
theorem only_ok (fu n : Nat) (s c : ByteArray) (h : s.size ≤ 9223372036854775807 ∧ c.size < 4294967281 ∧ c.data.toList.all (fun b => decide (b.toNat < 128)) = true) : ev fu (n + 2) 99 [.str s, .str c] [] = some ([.bool (allIn s c)], []) := by
  rw [chaseref2_only_eq, Trim_ev fu n s c h, rS_some]
  have e : decide ((⟨(Go.Lib.trimS s.data.toList c.data.toList).toArray⟩ : ByteArray) = ⟨#[]⟩) = allIn s c := by
    have e1 : ((⟨(Go.Lib.trimS s.data.toList c.data.toList).toArray⟩ : ByteArray) = ⟨#[]⟩) ↔ Go.Lib.trimS s.data.toList c.data.toList = [] := by
      constructor
      · intro h; have := congrArg (fun b => b.data.toList) h; simpa using this
      · intro h; rw [h]
    unfold allIn
    by_cases hx : Go.Lib.trimS s.data.toList c.data.toList = []
    · rw [decide_eq_true (e1.2 hx)]
      exact (List.all_eq_true.2 ((trim_nil _ _).1 hx)).symm
    · rw [decide_eq_false (fun q => hx (e1.1 q))]
      symm; rw [Bool.eq_false_iff]; intro q
      exact hx ((trim_nil _ _).2 (List.all_eq_true.1 q))
  rw [e]
def smallsB : ByteArray := ⟨#[97, 98, 99, 100, 101, 102, 103, 104, 105, 106, 107, 108, 109, 110, 111, 112, 113, 114, 115, 116, 117, 118, 119, 120, 121, 122]⟩
def keyCs : ByteArray := ⟨#[97, 98, 99, 100, 101, 102, 103, 104, 105, 106, 107, 108, 109, 110, 111, 112, 113, 114, 115, 116, 117, 118, 119, 120, 121, 122, 48, 49, 50, 51, 52, 53, 54, 55, 56, 57, 45, 95]⟩
theorem small_mem (b : UInt8) : smallsB.data.toList.contains b = inB (b.toNat : Int) 97 122 := by
  have h : ∀ n : Fin 256, smallsB.data.toList.contains (UInt8.ofNat n.val) = inB (n.val : Int) 97 122 := by decide +kernel
  have h2 := h ⟨b.toNat, b.toNat_lt⟩
  simpa using h2
theorem key_mem (b : UInt8) : keyCs.data.toList.contains b = keyC (b.toNat : Int) := by
  have h : ∀ n : Fin 256, keyCs.data.toList.contains (UInt8.ofNat n.val) = keyC (n.val : Int) := by decide +kernel
  have h2 := h ⟨b.toNat, b.toNat_lt⟩
  simpa using h2
theorem bAt_el (s : ByteArray) {i : Nat} (h : i < s.data.toList.length) : bAt s i = ((s.data.toList[i]).toNat : Int) := by
  unfold bAt
  have h2 : i < s.data.size := by simpa using h
  rw [Array.getD_eq_getD_getElem?, Array.getElem?_eq_getElem h2]; simp
theorem keyFrom_all (s : ByteArray) : ∀ (m i : Nat), i + m = s.data.toList.length → keyFrom s i m = (s.data.toList.drop i).all (keyCs.data.toList.contains ·)
  | 0, i, h => by rw [List.drop_of_length_le (by omega)]; rfl
  | m + 1, i, h => by
    rw [List.drop_eq_getElem_cons (by omega), List.all_cons, keyFrom, keyFrom_all s m (i + 1) (by omega), key_mem, bAt_el s (by omega)]
theorem keyS_eq (s : ByteArray) : keyS s = (inB (s.size : Int) 1 40 && (inB (bAt s 0) 97 122 && allIn s keyCs)) := by
  unfold keyS allIn
  have hs : s.size = s.data.toList.length := by simp
  rw [hs, keyFrom_all s s.data.toList.length 0 (by omega), List.drop_zero]
theorem RKey_ok (fu n : Nat) (s : ByteArray) : ev fu (n + 3) 45 [.str s] [] = some ([.bool (keyS s)], []) := by
  rw [chaseref2_Key_eq, in_ok, rB_some, keyS_eq]
  by_cases h : inB (s.size : Int) 1 40 = true
  · have hb : 1 ≤ (s.size : Int) ∧ (s.size : Int) ≤ 40 := by simp [inB] at h; omega
    have hl : 0 < s.data.toList.length := by simp; omega
    have ha : allIn (s.extract 0 1) smallsB = inB (bAt s 0) 97 122 := by
      unfold allIn
      have e : (s.extract 0 1).data.toList = [s.data.toList[0]] := by
        have e1 : (s.extract 0 1).data.toList = (s.data.toList.drop 0).take 1 := by
          simp [ByteArray.extract, ByteArray.copySlice]
        rw [e1, List.drop_eq_getElem_cons hl]; rfl
      rw [e, List.all_cons, List.all_nil, Bool.and_true, small_mem, bAt_el s hl]
    have hz : (s.extract 0 1).size ≤ 9223372036854775807 := by rw [ByteArray.size_extract]; omega
    have o1 := only_ok fu n (s.extract 0 1) smallsB ⟨hz, by decide, by decide⟩
    have o2 := only_ok fu n s keyCs ⟨by omega, by decide, by decide⟩
    rw [ha] at o1
    unfold smallsB at o1
    unfold keyCs at o2
    have e0 : ((0 : Nat) : Int).toNat = 0 := rfl
    have e1 : (1 : Int).toNat = 1 := rfl
    rw [h, cnd_true, slS_pos (by omega), e0, e1, o1, rB_some]
    cases hx : inB (bAt s 0) 97 122
    · rw [cnd_false]; rfl
    · rw [cnd_true, o2, rB_some]; rfl
  · rw [Bool.eq_false_iff.2 h, cnd_false]; rfl

/-! ### Rows of strings -/
def sS (s : ByteArray) : List MV := [.str s]
@[simp] theorem npL_sS (s : ByteArray) : npL (sS s) = true := rfl
@[simp] theorem sS_len (s : ByteArray) : (sS s).length = 1 := rfl
def strs (l : List ByteArray) : List (List MV) := l.map sS
@[simp] theorem strs_len (l : List ByteArray) : (strs l).length = l.length := by simp [strs]
def sIx (s : ByteArray) (l : List ByteArray) : Int := fIx (fun x => decide (s = x)) 0 l
theorem IndexS_ok (fu n : Nat) (l : List ByteArray) (s : ByteArray) (hl : l.length ≤ 400000) (hfu : 1000000 ≤ fu) :
    ev fu (n + 1) 61 [.list (strs l), .str s] [] = some ([.int .i64 (sIx s l)], []) := by
  have h := loop_ok l (fun _ _ => True) (fun k i (_ : Unit) => slices_Index_Sstring_string_L1 fu n k (strs l) s (l.length : Nat) i) (fun i _ x => if s = x then .inl (some ([.int .i64 (i : Nat)], [])) else .inr ()) (fun _ => some ([.int .i64 (-1)], []))
    (fun k s _ => by rw [slices_Index_Sstring_string_L1_eq, cnd_decide, if_neg (by omega)])
    (fun k i _ hi _ => by
      rw [slices_Index_Sstring_string_L1_eq, cnd_decide, if_pos (by omega), strs, rdm hi, gd_pos (sS_len _)]
      simp only [sS, cel_zero, dS_str, cnd_decide]
      rw [i64s (by omega)]
      by_cases e : s = l[i]
      · simp only [if_pos e]
      · simp only [if_neg e]) (fun _ _ _ _ _ _ => trivial) l.length 0 fu () (by omega) (by omega) trivial
  rw [slices_Index_Sstring_string_eq, strs_len]
  refine h.trans ?_
  rw [List.drop_zero]
  unfold sIx
  have e : ∀ (l : List ByteArray) (i : Nat), runL (σ := Unit) (fun i _ x => if s = x then .inl (some ([.int .i64 (i : Nat)], [])) else .inr ()) (fun _ => some ([.int .i64 (-1)], [])) i () l = some ([.int .i64 (fIx (fun x => decide (s = x)) i l)], []) := by
    intro l
    induction l with
    | nil => intro i; rfl
    | cons a r ih =>
      intro i
      unfold runL fIx
      by_cases e : s = a
      · simp [e]
      · simp only [if_neg e, decide_eq_false e]; exact ih (i + 1)
  exact e l 0
theorem ContainsS_ok (fu n : Nat) (l : List ByteArray) (s : ByteArray) (hl : l.length ≤ 400000) (hfu : 1000000 ≤ fu) :
    ev fu (n + 2) 47 [.list (strs l), .str s] [] = some ([.bool (l.any fun x => decide (s = x))], []) := by
  rw [slices_Contains_Sstring_string_eq, IndexS_ok fu n l s hl hfu, rI_some]
  unfold sIx
  rw [fIx_any]

/-! ### What streams pick -/
theorem some10_ok (fu n : Nat) (ls : List Int) (at_ : Int) (es : List (List MV)) (xs : List ByteArray) (he : es = strs xs) (h0 : 0 ≤ at_) (h1 : at_ < 4611686018427387904) (hx : 1 ≤ xs.length) (hx2 : xs.length < 1000000) :
    ∃ v, v ∈ xs ∧ ev fu (n + 3) 39 [.ptr 0 0, .list es] (sb ls at_) = some ([.str v], sb ls (at_ + 1)) := by
  subst he
  obtain ⟨v, hv, h⟩ := Next_ok fu n ls at_ xs.length h0 h1
  have hv2 := hv (by omega) (by omega)
  have hi : v.toNat < xs.length := by omega
  refine ⟨xs[v.toNat], List.getElem_mem hi, ?_⟩
  have he : (strs xs)[v.toNat]? = some [.str xs[v.toNat]] := map_get sS hi
  unfold sb at *
  rw [chasemake_Stream_some10_eq]
  simp only [strs_len]
  rw [h]
  simp only [skI_some, skB_some, skS_some, callE_some', unXN_nil, unC_cons, dI_int, unN_nil, unX_cons, dBx_box, dL_list, unXN_nil, rd_get hv2.1 he, List.length_cons, List.length_nil, cel_zero, dS_str]
  rw [gd_pos (by simp)]
end Go.Pv
