/- Chapter 1: the program's checks of one item. -/
import Derived.Test.YtlfbfhgoehndpaaGreatDoorZ2
import Derived.Test.YtlfbfhgoehndpaaGreatDoorHU
import Derived.Sort.Walk0
import Derived.Test.YtlfbfhgoehndpaaGreatDoorZ0
import Derived.Handed
import Derived.SizedLaws
import Derived.HandedShaped
set_option linter.unusedSimpArgs false
set_option linter.unusedVariables false
set_option maxRecDepth 100000
namespace Go.Pv
open Go Go.Proofs

/-! ### Strings: ends -/
theorem ext_one (s : ByteArray) (i : Nat) (h : i < s.size) (c : UInt8) : decide (s.extract i (i + 1) = ⟨#[c]⟩) = decide (bAt s i = (c.toNat : Int)) := by
  have hl : i < s.data.toList.length := by rw [Array.length_toList]; exact h
  have e1 : (s.extract i (i + 1)).data.toList = [s.data.toList[i]] := by
    have : (s.extract i (i + 1)).data.toList = (s.data.toList.drop i).take (i + 1 - i) := by
      simp only [ByteArray.data_extract, Array.toList_extract, List.extract]
    rw [this, List.drop_eq_getElem_cons hl, Nat.add_sub_cancel_left]; rfl
  rw [bAt_el s hl]
  congr 1
  apply propext
  constructor
  · intro e
    rw [e] at e1
    have : c = s.data.toList[i] := by simpa using e1
    rw [← this]
  · intro e
    apply ByteArray.ext
    apply Array.ext'
    rw [e1]
    have : (s.data.toList[i]).toNat = c.toNat := by exact_mod_cast e
    rw [UInt8.toNat_inj.1 this]
def preB (c : Int) (s : ByteArray) : Bool := decide (1 ≤ s.size) && decide (bAt s 0 = c)
def sufB (c : Int) (s : ByteArray) : Bool := decide (1 ≤ s.size) && decide (bAt s (s.size - 1) = c)
theorem one_size (c : UInt8) : ((⟨#[c]⟩ : ByteArray).size : Int) = 1 := rfl
theorem HasPrefix1_ok (fu n : Nat) (s : ByteArray) (c : UInt8) (h : s.size ≤ 9223372036854775807) : ev fu (n + 2) 93 [.str s, .str ⟨#[c]⟩] [] = some ([.bool (preB c.toNat s)], []) := by
  rw [strings_HasPrefix_eq, internal_stringslite_HasPrefix_eq, cnd_decide, one_size]
  unfold preB
  by_cases h1 : 1 ≤ s.size
  · rw [if_pos (by omega), slS_pos (by omega), decide_eq_true h1, Bool.true_and, rB_some]
    have := ext_one s 0 (by omega) c
    rw [← this]; rfl
  · rw [if_neg (by omega), decide_eq_false h1, Bool.false_and, rB_some]
theorem HasSuffix1_ok (fu n : Nat) (s : ByteArray) (c : UInt8) (h : s.size ≤ 9223372036854775807) : ev fu (n + 2) 105 [.str s, .str ⟨#[c]⟩] [] = some ([.bool (sufB c.toNat s)], []) := by
  rw [strings_HasSuffix_eq, internal_stringslite_HasSuffix_eq, cnd_decide, one_size]
  unfold sufB
  by_cases h1 : 1 ≤ s.size
  · have hw : IntKind.i64.wrap ((s.size : Int) - 1) = ((s.size - 1 : Nat) : Int) := by rw [w64 (by omega) (by omega)]; omega
    rw [if_pos (by omega), hw, slS_pos (by omega), decide_eq_true h1, Bool.true_and, rB_some]
    have := ext_one s (s.size - 1) (by omega) c
    rw [← this, Nat.sub_add_cancel h1]; rfl
  · rw [if_neg (by omega), decide_eq_false h1, Bool.false_and, rB_some]
theorem dw_self {α : Type} (p : α → Bool) : ∀ l : List α, l.dropWhile p = l ↔ ∀ a r, l = a :: r → p a = false
  | [] => by simp
  | a :: r => by
    rw [List.dropWhile_cons]
    constructor
    · intro h b q e
      injection e with e1 e2
      subst e1
      cases hp : p a with
      | false => rfl
      | true =>
        rw [if_pos hp] at h
        have h1 := congrArg List.length h
        have h2 := (List.dropWhile_suffix (l := r) p).length_le
        simp at h1; omega
    · intro h
      rw [h a r rfl]; rfl
theorem trim_self (l cs : List UInt8) : Go.Lib.trimS l cs = l ↔ (∀ a r, l = a :: r → cs.contains a = false) ∧ (∀ a r, l.reverse = a :: r → cs.contains a = false) := by
  have e : Go.Lib.trimS l cs = ((l.reverse.dropWhile (cs.contains ·)).reverse).dropWhile (cs.contains ·) := rfl
  rw [e, ← dw_self, ← dw_self]
  have hR : ((l.reverse.dropWhile (cs.contains ·)).reverse).length ≤ l.length := by
    rw [List.length_reverse]
    have := (List.dropWhile_suffix (l := l.reverse) (cs.contains ·)).length_le
    simpa using this
  constructor
  · intro h
    have h2 := (List.dropWhile_suffix (l := (l.reverse.dropWhile (cs.contains ·)).reverse) (cs.contains ·)).length_le
    rw [h] at h2
    have h3 : l.reverse.dropWhile (cs.contains ·) = l.reverse := (List.dropWhile_suffix (l := l.reverse) (cs.contains ·)).eq_of_length (by rw [List.length_reverse] at h2 hR ⊢; omega)
    rw [h3, List.reverse_reverse] at h
    exact ⟨h, h3⟩
  · rintro ⟨h1, h2⟩
    rw [h2, List.reverse_reverse, h1]
theorem trimB_self (s : ByteArray) : decide (trimB s = s) = (!preB 32 s && !sufB 32 s) := by
  have hs : s.data.toList.length = s.size := by rw [Array.length_toList]; rfl
  have e1 : (trimB s = s) ↔ Go.Lib.trimS s.data.toList [32] = s.data.toList := by
    unfold trimB
    constructor
    · intro h
      have := congrArg (fun b => b.data.toList) h
      simpa using this
    · intro h
      rw [h]
  have c32 : ∀ a : UInt8, [(32 : UInt8)].contains a = decide ((a.toNat : Int) = 32) := by
    intro a
    simp only [List.contains_cons, List.contains_nil, Bool.or_false]
    by_cases h : a = 32
    · subst h; rfl
    · have : ¬ ((a.toNat : Int) = 32) := fun e => by
        have e2 : a.toNat = (32 : UInt8).toNat := by
          show a.toNat = 32
          omega
        exact h (UInt8.toNat_inj.1 e2)
      rw [decide_eq_false this]
      simpa using h
  rw [Bool.eq_iff_iff, decide_eq_true_iff, e1, trim_self, Bool.and_eq_true, Bool.not_eq_true', Bool.not_eq_true']
  unfold preB sufB
  by_cases h0 : 1 ≤ s.size
  · have a0 := bAt_el s (i := 0) (by omega)
    have a1 := bAt_el s (i := s.size - 1) (by omega)
    rw [decide_eq_true h0, Bool.true_and, Bool.true_and, a0, a1, ← c32, ← c32]
    have hd : s.data.toList = s.data.toList[0] :: s.data.toList.drop 1 := by
      have := List.drop_eq_getElem_cons (l := s.data.toList) (i := 0) (by omega)
      simpa using this
    have hr : s.data.toList.reverse[0]? = some (s.data.toList[s.size - 1]'(by omega)) := by
      rw [List.getElem?_reverse (by omega), List.getElem?_eq_getElem (by omega)]
      congr 1
    generalize s.data.toList[s.size - 1]'(by omega) = z at *
    constructor
    · rintro ⟨h1, h2⟩
      refine ⟨h1 _ _ hd, ?_⟩
      cases hq : s.data.toList.reverse with
      | nil => rw [hq] at hr; cases hr
      | cons a r =>
        rw [hq] at hr
        have hr : a = z := by simpa using hr
        rw [← hr]; exact h2 _ _ hq
    · rintro ⟨h1, h2⟩
      refine ⟨fun a r e => ?_, fun a r e => ?_⟩
      · have : s.data.toList[0] = a := by simp [e]
        rw [← this]; exact h1
      · rw [e] at hr
        have hr : a = z := by simpa using hr
        rw [hr]; exact h2
  · have hn : s.data.toList = [] := List.eq_nil_of_length_eq_zero (by omega)
    rw [hn, decide_eq_false h0]
    simp
/-! ### Texts -/
theorem Visible_L1 (fu n : Nat) (s : ByteArray) (f : Bool) (hs : s.size ≤ 400000) : ∀ (m i k1 : Nat), i + m = s.size → m < k1 →
    base_Visible_L1 fu (n + 1) k1 s f (s.size : Nat) (i : Nat) = some ([.bool (visFrom f s i m && validB s)], [])
  | m, i, 0, hi, hk => by omega
  | 0, i, k1 + 1, hi, hk => by
    rw [base_Visible_L1_eq, cnd_decide, if_neg (by omega), Valid_ev fu n s (by omega), rB_some]
    unfold visFrom; rw [Bool.true_and]
  | m + 1, i, k1 + 1, hi, hk => by
    rw [base_Visible_L1_eq, cnd_decide, if_pos (by omega), ixS_pos (by omega) (by omega), Int.toNat_natCast, i64s (by omega), Visible_L1 fu n s f hs m (i + 1) k1 (by omega) (by omega), visFrom]
    unfold visC
    cases decide (bAt s i < 32) <;> cases decide (bAt s i = 127) <;> cases decide (bAt s i = 10) <;> cases f <;> rfl
theorem Visible_ok (fu n : Nat) (s : ByteArray) (f : Bool) (hs : s.size ≤ 400000) (hfu : 1000000 ≤ fu) : ev fu (n + 2) 104 [.str s, .bool f] [] = some ([.bool (visFrom f s 0 s.size && validB s)], []) := by
  rw [base_Visible_eq]
  exact Visible_L1 fu n s f hs s.size 0 fu (by omega) (by omega)
theorem PPlain_ok (fu n : Nat) (s : ByteArray) (hs : s.size ≤ 400000) (hfu : 1000000 ≤ fu) : ev fu (n + 4) 57 [.str s] [] = some ([.bool (plainS s)], []) := by
  have hc : ev fu (n + 3) 100 [.str s, .str ⟨#[32, 32]⟩] [] = some ([.bool (twoB s)], []) := Contains_ev fu n s ⟨#[32, 32]⟩ (by omega)
  have h1 : ev fu (n + 3) 93 [.str s, .str ⟨#[32]⟩] [] = some ([.bool (preB 32 s)], []) := HasPrefix1_ok fu (n + 1) s 32 (by omega)
  have h2 : ev fu (n + 3) 105 [.str s, .str ⟨#[32]⟩] [] = some ([.bool (sufB 32 s)], []) := HasSuffix1_ok fu (n + 1) s 32 (by omega)
  rw [base_Plain_eq, Visible_ok fu (n + 1) s false hs hfu, rB_some, h1, rB_some, h2, rB_some, hc, rB_some]
  unfold plainS
  rw [trimB_self]
  cases visFrom false s 0 s.size <;> cases validB s <;> cases preB 32 s <;> cases sufB 32 s <;> cases twoB s <;> rfl
theorem PText_ok (fu n : Nat) (s : ByteArray) (hs : s.size ≤ 400000) (hfu : 1000000 ≤ fu) : ev fu (n + 3) 59 [.str s] [] = some ([.bool (textS s)], []) := by
  have h2 : ev fu (n + 2) 105 [.str s, .str ⟨#[10]⟩] [] = some ([.bool (sufB 10 s)], []) := HasSuffix1_ok fu n s 10 (by omega)
  rw [base_Text_eq, Visible_ok fu n s true hs hfu, rB_some, h2, rB_some]
  unfold textS
  by_cases h0 : s = ⟨#[]⟩
  · rw [decide_eq_true h0]
    cases visFrom true s 0 s.size <;> cases validB s <;> rfl
  · have hp : 1 ≤ s.size := by
      rcases Nat.eq_zero_or_pos s.size with h | h
      · exfalso; apply h0
        apply ByteArray.ext
        exact Array.eq_empty_of_size_eq_zero h
      · exact h
    unfold sufB
    rw [decide_eq_false h0, decide_eq_true hp]
    cases visFrom true s 0 s.size <;> cases validB s <;> cases decide (bAt s (s.size - 1) = 10) <;> rfl
theorem Moment_ok (fu n : Nat) (x : Int) : ev fu (n + 2) 58 [.int .i64 x] [] = some ([.bool (inB x 0 5761439)], []) := by
  rw [base_Moment_eq, In_ok, rB_some]
/-- The word of a kind. -/
def kindS (k : Int) : ByteArray := if k = 1 then ⟨#[109, 97, 105, 108]⟩ else if k = 2 then ⟨#[102, 105, 108, 101]⟩ else if k = 3 then ⟨#[98, 111, 120]⟩ else if k = 4 then ⟨#[110, 111, 116, 101]⟩ else ⟨#[]⟩
theorem kindWord_ok (fu n : Nat) (k : Int) : ev fu (n + 1) 56 [.int .i64 k] [] = some ([.str (kindS k)], []) := by
  rw [intake_kindWord_eq, cnd_decide, cnd_decide, cnd_decide, cnd_decide]
  unfold kindS
  repeat' split
  all_goals rfl
theorem kindS_nil (k : Int) : decide (kindS k = ⟨#[]⟩) = !inB k 1 4 := by
  unfold kindS inB
  repeat' split
  · subst k; rfl
  · subst k; rfl
  · subst k; rfl
  · subst k; rfl
  · rw [decide_eq_true rfl, decide_eq_false (by omega)]; rfl
/-! ### One item -/
theorem CheckItem_ok (fu n : Nat) (x : Item) (hfu : 1000000 ≤ fu) : ev fu (n + 5) 13 [.agg (itemC x)] [] = some ([.int .i64 (itE x)], []) := by
  unfold itE itemC
  rw [intake_CheckItem_eq, Key_ok fu (n + 2) _ hfu, rB_some, cnd_errc _ _ (by decide), out_fnz]
  refine errO_congr fun _ => ?_
  rw [Key_ok fu (n + 2) _ hfu, rB_some, cnd_errc _ _ (by decide), out_fnz]
  refine errO_congr fun _ => ?_
  rw [kindWord_ok, rS_some, kindS_nil, cnd_errc _ _ (by decide), out_fnz]
  refine errO_congr fun _ => ?_
  rw [cnd_errc _ _ (by decide), out_fnz]
  refine errO_congr fun h => ?_
  have hn : x.name.size ≤ 120 := by
    by_cases h1 : (120 : Int) < (x.name.size : Int)
    · rw [decide_eq_true h1] at h; exact absurd h (by decide)
    · omega
  rw [PPlain_ok fu n x.name (by omega) hfu, rB_some, cnd_errc _ _ (by decide), out_fnz]
  refine errO_congr fun _ => ?_
  rw [Moment_ok, rB_some, cnd_errc _ _ (by decide), out_fnz]
  refine errO_congr fun _ => ?_
  have rest : (cnd (decide (x.parent = x.id)) (some ([.int .i64 (14 : Int)], [])) (cnd (decide ((20000 : Int) < (x.text.size : Int))) (some ([.int .i64 (2 : Int)], [])) (rB (ev fu (n + 4) 59 [.str x.text] []) fun x7 => (cnd (!x7) (some ([.int .i64 (3 : Int)], [])) (some ([.int .i64 (0 : Int)], []))))) : Out) = some ([.int .i64 (fnz [if decide (x.parent = x.id) = true then 14 else 0, if decide ((20000 : Int) < (x.text.size : Int)) = true then 2 else 0, if (!textS x.text) = true then 3 else 0])], []) := by
    rw [cnd_errc _ _ (by decide), out_fnz]
    refine errO_congr fun _ => ?_
    rw [cnd_errc _ _ (by decide), out_fnz]
    refine errO_congr fun h => ?_
    have hn : x.text.size ≤ 20000 := by
      by_cases h1 : (20000 : Int) < (x.text.size : Int)
      · rw [decide_eq_true h1] at h; exact absurd h (by decide)
      · omega
    rw [PText_ok fu (n + 1) x.text (by omega) hfu, rB_some, cnd_errc _ _ (by decide), out_fnz]; rfl
  rw [Key_ok fu (n + 2) _ hfu, rB_some, rest, out_fnz (if (!decide (x.parent = ⟨#[]⟩) && !keyS x.parent) = true then 5 else 0)]
  cases decide (x.parent = (⟨#[]⟩ : ByteArray)) with
  | true => rw [Bool.not_true, cnd_false, Bool.false_and]; rfl
  | false => rw [Bool.not_false, cnd_true, Bool.true_and, cnd_errc _ _ (by decide)]
end Go.Pv
/- Plain: the order of strings; pigeonholes. -/
namespace Go.Pv
open Go Go.Proofs

theorem sless_eq (a b : ByteArray) : sless a b = decide (a.data.toList < b.data.toList) := by
  unfold sless
  rw [bytesLess_eq, Lib.toList_data, Lib.toList_data]
theorem ba_ext {a b : ByteArray} (h : a.data.toList = b.data.toList) : a = b := by
  apply ByteArray.ext; apply Array.ext'; exact h
theorem sless_irr (a : ByteArray) : sless a a = false := by
  rw [sless_eq]; exact decide_eq_false (List.lt_irrefl _)
theorem sless_trans {a b c : ByteArray} (h1 : sless a b = true) (h2 : sless b c = true) : sless a c = true := by
  rw [sless_eq, decide_eq_true_iff] at *
  exact List.lt_trans h1 h2
theorem sless_asymm {a b : ByteArray} (h1 : sless a b = true) : sless b a = false := by
  rw [Bool.eq_false_iff]; intro h2
  have := sless_trans h1 h2
  rw [sless_irr] at this; cases this
theorem sless_tri {a b : ByteArray} (h1 : sless a b = false) (h2 : a ≠ b) : sless b a = true := by
  rw [sless_eq, decide_eq_false_iff_not] at h1
  rw [sless_eq, decide_eq_true_iff]
  rcases List.le_total a.data.toList b.data.toList with h | h
  · rcases Classical.em (b.data.toList < a.data.toList) with h' | h'
    · exact h'
    · exfalso; exact h2 (ba_ext (List.le_antisymm h (fun q => h1 q)))
  · rcases Classical.em (b.data.toList < a.data.toList) with h' | h'
    · exact h'
    · exfalso; exact h2 (ba_ext (List.le_antisymm (fun q => h' q) (fun q => h1 q)))
theorem sless_ne {a b : ByteArray} (h : sless a b = true) : a ≠ b := by
  intro e; subst e; rw [sless_irr] at h; cases h

/-! ### Pigeonholes -/
theorem nodup_len {β : Type} : ∀ (a l : List β), a.Nodup → (∀ x ∈ a, x ∈ l) → a.length ≤ l.length
  | [], l, _, _ => Nat.zero_le _
  | x :: r, l, hn, hs => by
    classical
    have hx : x ∈ l := hs x (List.mem_cons_self ..)
    have hn := List.nodup_cons.1 hn
    have h := nodup_len r (l.erase x) hn.2 (fun y hy => (List.mem_erase_of_ne (fun e => hn.1 (by rw [← e]; exact hy))).2 (hs y (List.mem_cons_of_mem _ hy)))
    rw [List.length_erase_of_mem hx] at h
    have : 0 < l.length := List.length_pos_of_mem hx
    rw [List.length_cons]; omega
theorem pig {β : Type} (l : List β) (f : Nat → β) (h : ∀ k, k ≤ l.length → f k ∈ l) : ∃ p q, p < q ∧ q ≤ l.length ∧ f p = f q := by
  apply Classical.byContradiction
  intro hc
  have hn : ((List.range (l.length + 1)).map f).Nodup := by
    rw [List.Nodup, List.pairwise_iff_getElem]
    intro i j hi hj hij e
    simp only [List.length_map, List.length_range] at hi hj
    simp only [List.getElem_map, List.getElem_range] at e
    exact hc ⟨i, j, hij, by omega, e⟩
  have := nodup_len _ l hn (fun x hx => by
    obtain ⟨k, hk, rfl⟩ := List.mem_map.1 hx
    exact h k (by have := List.mem_range.1 hk; omega))
  simp only [List.length_map, List.length_range] at this
  omega
end Go.Pv
/- Maps with strings as keys, in laws. -/
namespace Go.Pv
open Go

section
variable {α β : Type}
/-- A map as a list of keys with what stands there. -/
def smap (f : β → MV) (l : List (ByteArray × β)) : List (MKey × MV) := l.map fun x => (.str x.1, f x.2)
def aget : List (ByteArray × β) → ByteArray → Option β
  | [], _ => none
  | x :: r, k => if k = x.1 then some x.2 else aget r k
def aset : List (ByteArray × β) → ByteArray → β → List (ByteArray × β)
  | [], k, v => [(k, v)]
  | x :: r, k, v => if k = x.1 then (k, v) :: r else x :: aset r k v
theorem smap_nil (f : β → MV) : smap f [] = [] := rfl
@[simp] theorem smap_len (f : β → MV) (l : List (ByteArray × β)) : (smap f l).length = l.length := by simp [smap]
theorem kOk_smap (f : β → MV) (l : List (ByteArray × β)) (k : ByteArray) : kOkM (smap f l) (.str k) = true := by
  cases l <;> rfl
theorem gK_smap (f : β → MV) (l : List (ByteArray × β)) (k : ByteArray) (o : Option α) : gK (smap f l) (.str k) o = o := by
  unfold gK; rw [kOk_smap]
theorem mfind_smap (f : β → MV) : ∀ (l : List (ByteArray × β)) (k : ByteArray) (i : Nat), (mfind (smap f l) (.str k) i).map (·.2) = (aget l k).map f
  | [], k, i => rfl
  | x :: r, k, i => by
    show Option.map _ (if (MKey.str k) = .str x.1 then _ else mfind (smap f r) (.str k) (i + 1)) = Option.map f (if k = x.1 then _ else _)
    by_cases h : k = x.1
    · rw [if_pos h, if_pos (by rw [h])]; rfl
    · rw [if_neg h, if_neg (fun e => h (by injection e)), mfind_smap f r k (i + 1)]
theorem mget_smap (f : β → MV) (l : List (ByteArray × β)) (k : ByteArray) : mget (smap f l) (.str k) = (aget l k).map f := mfind_smap f l k 0
theorem mgE_smap (f : β → MV) (l : List (ByteArray × β)) (k : ByteArray) (z : MV) (K : Bool → MV → Option α) : mgE (smap f l) (.str k) z K = match aget l k with | some v => K true (f v) | none => K false z := by
  unfold mgE; rw [mget_smap]; cases aget l k <;> rfl
theorem mset_smap (f : β → MV) : ∀ (l : List (ByteArray × β)) (k : ByteArray) (v : β), mset (smap f l) (.str k) (f v) = smap f (aset l k v)
  | [], k, v => rfl
  | x :: r, k, v => by
    show (if (MKey.str k) = .str x.1 then _ else _ :: mset (smap f r) (.str k) (f v)) = smap f (if k = x.1 then _ else _)
    by_cases h : k = x.1
    · rw [if_pos h, if_pos (by rw [h])]; rfl
    · rw [if_neg h, if_neg (fun e => h (by injection e)), mset_smap f r k v]; rfl
theorem aget_aset : ∀ (l : List (ByteArray × β)) (k : ByteArray) (v : β) (k' : ByteArray), aget (aset l k v) k' = if k' = k then some v else aget l k'
  | [], k, v, k' => rfl
  | x :: r, k, v, k' => by
    unfold aset
    by_cases h : k = x.1
    · rw [if_pos h]
      show (if k' = k then some v else aget r k') = if k' = k then some v else (if k' = x.1 then some x.2 else aget r k')
      by_cases h' : k' = k
      · rw [if_pos h', if_pos h']
      · rw [if_neg h', if_neg h', if_neg (fun e => h' (by rw [e, h]))]
    · rw [if_neg h]
      show (if k' = x.1 then some x.2 else aget (aset r k v) k') = if k' = k then some v else (if k' = x.1 then some x.2 else aget r k')
      rw [aget_aset r k v k']
      by_cases h' : k' = x.1
      · rw [if_pos h', if_neg (fun e => h (by rw [← e, h'])), if_pos h']
      · rw [if_neg h', if_neg h']
theorem aget_mem : ∀ {l : List (ByteArray × β)} {k : ByteArray} {v : β}, aget l k = some v → (k, v) ∈ l
  | x :: r, k, v, h => by
    unfold aget at h
    by_cases e : k = x.1
    · rw [if_pos e] at h; cases h; subst e; exact List.mem_cons_self ..
    · rw [if_neg e] at h; exact List.mem_cons_of_mem _ (aget_mem h)
theorem aget_none {l : List (ByteArray × β)} {k : ByteArray} : aget l k = none ↔ ∀ x ∈ l, k ≠ x.1 := by
  induction l with
  | nil => simp [aget]
  | cons x r ih =>
    unfold aget
    by_cases e : k = x.1
    · rw [if_pos e]; simp [e]
    · rw [if_neg e, ih]; simp [e]
/-- The keys. -/
def akeys (l : List (ByteArray × β)) : List ByteArray := l.map (·.1)
theorem aget_some_key {l : List (ByteArray × β)} {k : ByteArray} : (∃ v, aget l k = some v) ↔ k ∈ akeys l := by
  constructor
  · rintro ⟨v, h⟩; exact List.mem_map.2 ⟨_, aget_mem h, rfl⟩
  · intro h
    cases e : aget l k with
    | some v => exact ⟨v, rfl⟩
    | none =>
      obtain ⟨x, hx, rfl⟩ := List.mem_map.1 h
      exact absurd rfl (aget_none.1 e x hx)
theorem akeys_aset : ∀ (l : List (ByteArray × β)) (k : ByteArray) (v : β), akeys (aset l k v) = if (aget l k).isSome = true then akeys l else akeys l ++ [k]
  | [], k, v => rfl
  | x :: r, k, v => by
    unfold aset aget
    by_cases h : k = x.1
    · rw [if_pos h, if_pos h]; subst h; simp [akeys]
    · rw [if_neg h, if_neg h]
      show x.1 :: akeys (aset r k v) = _
      rw [akeys_aset r k v]
      split <;> rfl
theorem akeys_nodup {l : List (ByteArray × β)} (h : (akeys l).Nodup) (k : ByteArray) (v : β) : (akeys (aset l k v)).Nodup := by
  rw [akeys_aset]
  split
  · exact h
  · rename_i hk
    rw [List.nodup_append]
    refine ⟨h, by simp, fun a ha b hb => ?_⟩
    rcases List.mem_singleton.1 hb with rfl
    intro e
    obtain ⟨v, hv⟩ := aget_some_key.2 (e ▸ ha)
    rw [hv] at hk; exact hk rfl
theorem aset_len (l : List (ByteArray × β)) (k : ByteArray) (v : β) : (aset l k v).length ≤ l.length + 1 := by
  have h := congrArg List.length (akeys_aset l k v)
  simp only [akeys, List.length_map] at h
  rw [h]; split <;> simp
end
end Go.Pv
/- Chapter 1, plain: what is above an item, both ways. -/
namespace Go.Pv
open Go

/-- The item with an Id. -/
def itm (l : List Item) (id : ByteArray) : Option Item := l.find? fun x => decide (x.id = id)
def parO (g : ByteArray → Option Item) (x : Item) : Option Item := if x.parent = ⟨#[]⟩ then none else g x.parent
/-- What is so many steps above. -/
def itU (g : ByteArray → Option Item) : Nat → Item → Option Item
  | 0, x => some x
  | k + 1, x => (parO g x).bind (itU g k)
/-- What is above, up to so many. -/
def anc (g : ByteArray → Option Item) : Nat → Item → List Item
  | 0, _ => []
  | k + 1, x => match parO g x with
    | some p => p :: anc g k p
    | none => []
section
variable {g : ByteArray → Option Item}
theorem itU_add : ∀ (a b : Nat) (x : Item), itU g (a + b) x = (itU g a x).bind (itU g b)
  | 0, b, x => by simp [itU]
  | a + 1, b, x => by
    rw [show a + 1 + b = (a + b) + 1 by omega, itU, itU]
    cases parO g x with
    | none => rfl
    | some p => exact itU_add a b p
theorem anc_get : ∀ (k j : Nat) (x : Item), (anc g k x)[j]? = if j < k then itU g (j + 1) x else none
  | 0, j, x => by simp [anc]
  | k + 1, j, x => by
    rw [anc, itU]
    cases parO g x with
    | none => simp
    | some p =>
      cases j with
      | zero => simp [itU]
      | succ j => simp [anc_get k j p]
theorem anc_mem {k : Nat} {x y : Item} : y ∈ anc g k x ↔ ∃ j, j < k ∧ itU g (j + 1) x = some y := by
  rw [List.mem_iff_getElem?]
  constructor
  · rintro ⟨j, h⟩
    rw [anc_get] at h
    split at h
    · exact ⟨j, ‹_›, h⟩
    · cases h
  · rintro ⟨j, h1, h2⟩
    exact ⟨j, by rw [anc_get, if_pos h1, h2]⟩
theorem anc_len (k : Nat) (x : Item) : (anc g k x).length ≤ k := by
  induction k generalizing x with
  | zero => simp [anc]
  | succ k ih =>
    rw [anc]
    split
    · have := ih ‹Item›; simp; omega
    · simp
theorem itU_pre {a b : Nat} (h : a ≤ b) {x y : Item} (hy : itU g b x = some y) : ∃ z, itU g a x = some z := by
  rw [show b = a + (b - a) by omega, itU_add] at hy
  cases e : itU g a x with
  | none => rw [e] at hy; cases hy
  | some z => exact ⟨z, rfl⟩
theorem anc_stop : ∀ (k : Nat) (x : Item), itU g (k + 1) x = none → anc g (k + 1) x = anc g k x
  | 0, x, h => by
    rw [itU] at h
    cases e : parO g x with
    | none => simp [anc, e]
    | some p => rw [e] at h; cases h
  | k + 1, x, h => by
    rw [itU] at h
    rw [anc, anc]
    cases e : parO g x with
    | none => rfl
    | some p =>
      rw [e] at h
      simp only
      rw [anc_stop k p h]
/-- Keys lead to items of a list; each item once. -/
structure Fam (g : ByteArray → Option Item) (l : List Item) : Prop where
  mem : ∀ {id y}, g id = some y → y ∈ l ∧ y.id = id
  get : ∀ x ∈ l, g x.id = some x
variable {l : List Item}
theorem itU_mem (hF : Fam g l) : ∀ {k : Nat} {x y : Item}, x ∈ l → itU g k x = some y → y ∈ l
  | 0, x, y, hx, h => by cases h; exact hx
  | k + 1, x, y, hx, h => by
    rw [itU] at h
    cases e : parO g x with
    | none => rw [e] at h; cases h
    | some p =>
      rw [e] at h
      unfold parO at e
      split at e
      · cases e
      · exact itU_mem hF (hF.mem e).1 h
theorem itU_pig (hF : Fam g l) {x z : Item} (hx : x ∈ l) (h : itU g l.length x = some z) : ∃ p q y, p < q ∧ q ≤ l.length ∧ itU g p x = some y ∧ itU g q x = some y ∧ y ∈ l := by
  have hs : ∀ k, k ≤ l.length → ∃ y, itU g k x = some y := fun k hk => itU_pre hk h
  obtain ⟨p, q, h1, h2, h3⟩ := pig l (fun k => (itU g k x).getD x) (fun k hk => by
    obtain ⟨y, hy⟩ := hs k hk
    simp only [hy, Option.getD_some]
    exact itU_mem hF hx hy)
  obtain ⟨y, hy⟩ := hs p (by omega)
  obtain ⟨y', hy'⟩ := hs q h2
  simp only [hy, hy', Option.getD_some] at h3
  subst h3
  exact ⟨p, q, y, h1, h2, hy, hy', itU_mem hF hx hy⟩
/-- Who comes back to itself does so within as many steps as there are items. -/
theorem ret_early (hF : Fam g l) {x : Item} (hx : x ∈ l) : ∀ (j : Nat), itU g (j + 1) x = some x → ∃ j', j' < l.length ∧ itU g (j' + 1) x = some x := by
  intro j
  induction j using Nat.strongRecOn with
  | ind j ih =>
    intro h
    by_cases hj : j < l.length
    · exact ⟨j, hj, h⟩
    · obtain ⟨z, hz⟩ := itU_pre (show l.length ≤ j + 1 by omega) h
      obtain ⟨p, q, y, h1, h2, h3, h4, _⟩ := itU_pig hF hx hz
      have e : itU g (p + (j + 1 - q)) x = some x := by
        rw [itU_add, h3, ← h4, ← itU_add, show q + (j + 1 - q) = j + 1 by omega]; exact h
      obtain ⟨r, hr⟩ : ∃ r, p + (j + 1 - q) = r + 1 := ⟨p + (j + 1 - q) - 1, by omega⟩
      rw [hr] at e
      exact ih r (by omega) e
/-- Where nothing comes back, all ways end. -/
theorem no_ret (hF : Fam g l) (hn : ∀ x ∈ l, ∀ j, j < l.length → itU g (j + 1) x ≠ some x) {x : Item} (hx : x ∈ l) : itU g l.length x = none := by
  cases e : itU g l.length x with
  | none => rfl
  | some z =>
    obtain ⟨p, q, y, h1, h2, h3, h4, hy⟩ := itU_pig hF hx e
    have h5 : itU g (q - p) y = some y := by
      have := itU_add (g := g) p (q - p) x
      rw [show p + (q - p) = q by omega, h3, h4] at this
      exact this.symm
    obtain ⟨r, hr⟩ : ∃ r, q - p = r + 1 := ⟨q - p - 1, by omega⟩
    rw [hr] at h5
    exact absurd h5 (hn y hy r (by omega))
/-! ### As the program goes -/
def paF (g : ByteArray → Option Item) (id : ByteArray) : Nat → Int → Item → Int × Bool
  | 0, n, _ => (n, false)
  | m + 1, n, y => match parO g y with
    | none => (n, false)
    | some p => if p.id = id then (n + 1, true) else paF g id m (n + 1) p
theorem paF_loop (id : ByteArray) : ∀ (m : Nat) (n : Int) (y : Item), (paF g id m n y).2 = (anc g m y).any fun p => decide (p.id = id)
  | 0, n, y => rfl
  | m + 1, n, y => by
    rw [paF, anc]
    cases parO g y with
    | none => rfl
    | some p =>
      simp only [List.any_cons]
      by_cases h : p.id = id
      · rw [if_pos h, decide_eq_true h]; rfl
      · rw [if_neg h, decide_eq_false h, Bool.false_or]; exact paF_loop id m (n + 1) p
theorem paF_n (id : ByteArray) : ∀ (m : Nat) (n : Int) (y : Item), (paF g id m n y).2 = false → (paF g id m n y).1 = n + (anc g m y).length
  | 0, n, y, _ => by simp [paF, anc]
  | m + 1, n, y, h => by
    rw [paF] at h ⊢
    rw [anc]
    cases e : parO g y with
    | none => simp
    | some p =>
      rw [e] at h
      simp only at h ⊢
      by_cases h1 : p.id = id
      · rw [if_pos h1] at h; cases h
      · rw [if_neg h1] at h ⊢
        rw [paF_n id m (n + 1) p h, List.length_cons]; omega
end
/-! ### As the reference goes -/
theorem itm_plc (l : List Item) (id : ByteArray) : (plc l id = -1 ∧ itm l id = none) ∨ ∃ (k : Nat) (y : Item), plc l id = k ∧ l[k]? = some y ∧ itm l id = some y ∧ y.id = id := by
  rcases fIx_find (fun x : Item => decide (x.id = id)) l 0 with ⟨h1, h2⟩ | ⟨k, x, h1, h2, h3⟩
  · exact .inl ⟨h1, h2⟩
  · refine .inr ⟨k, x, by unfold plc; rw [h1]; simp, h2, h3, ?_⟩
    have := List.find?_some h3
    simpa using this
theorem abvF_anc (l : List Item) : ∀ (m : Nat) (out : List Int) (x : Item), out.length + m = l.length + 1 → (abvF l (!decide (x.parent = ⟨#[]⟩)) m out (plc l x.parent)).1 = out ++ (anc (itm l) m x).map fun y => plc l y.id
  | 0, out, x, h => by simp [abvF, anc]
  | m + 1, out, x, h => by
    rw [abvF, anc]
    unfold parO
    by_cases hp : x.parent = ⟨#[]⟩
    · rw [if_pos hp, decide_eq_true hp]; simp
    · rw [if_neg hp, decide_eq_false hp]
      rcases itm_plc l x.parent with ⟨h1, h2⟩ | ⟨k, y, h1, h2, h3, h4⟩
      · rw [h1, h2]; simp
      · rw [h1, h3, if_pos (by simp), Int.toNat_natCast, h2]
        simp only [List.map_cons, h4, h1]
        by_cases hl : l.length < (out ++ [(k : Int)]).length
        · rw [if_pos hl]
          have : m = 0 := by simp at hl; omega
          subst this
          simp [anc]
        · rw [if_neg hl]
          by_cases hq : y.parent = ⟨#[]⟩
          · rw [if_pos hq]
            cases m with
            | zero => simp [anc]
            | succ m => simp [anc, parO, hq]
          · rw [if_neg hq]
            have ih := abvF_anc l m (out ++ [(k : Int)]) y (by simp; omega)
            rw [decide_eq_false hq] at ih
            simp only [Bool.not_false] at ih ⊢
            rw [ih]; simp
theorem abv_anc (l : List Item) (i : Nat) (x : Item) (hx : l[i]? = some x) : (abv l i).1 = (anc (itm l) (l.length + 1) x).map fun y => plc l y.id := by
  unfold abv
  rw [hx]
  have := abvF_anc l (l.length + 1) [] x (by simp)
  simpa using this
/-! ### Both -/
def DistI (l : List Item) : Prop := l.Pairwise fun x y => x.id ≠ y.id
theorem plc_at {l : List Item} (hd : DistI l) {i : Nat} {x : Item} (hx : l[i]? = some x) : plc l x.id = i := by
  rcases itm_plc l x.id with ⟨h1, h2⟩ | ⟨k, y, h1, h2, h3, h4⟩
  · have := List.find?_eq_none.1 h2 x (List.mem_of_getElem? hx)
    simp at this
  · rw [h1]
    obtain ⟨hi, ei⟩ := List.getElem?_eq_some_iff.1 hx
    obtain ⟨hk, ek⟩ := List.getElem?_eq_some_iff.1 h2
    rcases Nat.lt_trichotomy k i with h | h | h
    · have := List.pairwise_iff_getElem.1 hd k i hk hi h
      rw [ei, ek] at this; exact absurd h4 this
    · rw [h]
    · have := List.pairwise_iff_getElem.1 hd i k hi hk h
      rw [ei, ek] at this; exact absurd h4.symm this
theorem fam_itm {l : List Item} (hd : DistI l) : Fam (itm l) l := by
  refine ⟨fun {id y} h => ?_, fun x hx => ?_⟩
  · have h1 := List.mem_of_find?_eq_some h
    have h2 := List.find?_some h
    exact ⟨h1, by simpa using h2⟩
  · obtain ⟨i, hi⟩ := List.mem_iff_getElem?.1 hx
    rcases itm_plc l x.id with ⟨h1, h2⟩ | ⟨k, y, h1, h2, h3, h4⟩
    · rw [plc_at hd hi] at h1; omega
    · rw [plc_at hd hi] at h1
      have : i = k := by omega
      subst this
      rw [hi] at h2; cases h2; exact h3
theorem ret_eq {l : List Item} (hd : DistI l) {i : Nat} {x : Item} (hx : l[i]? = some x) : retB l i = (paF (itm l) x.id l.length 0 x).2 := by
  have hF := fam_itm hd
  have hm := List.mem_of_getElem? hx
  unfold retB
  rw [abv_anc l i x hx, paF_loop, Bool.eq_iff_iff, List.any_eq_true, List.any_eq_true]
  have key : ∀ y, y ∈ l → ((i : Int) = plc l y.id ↔ y = x) := by
    intro y hy
    obtain ⟨k, hk⟩ := List.mem_iff_getElem?.1 hy
    rw [plc_at hd hk]
    constructor
    · intro h
      have : i = k := by omega
      subst this; rw [hx] at hk; cases hk; rfl
    · intro h; subst h
      have := plc_at hd hk
      rw [plc_at hd hx] at this; exact this
  constructor
  · rintro ⟨v, hv, h⟩
    obtain ⟨y, hy, rfl⟩ := List.mem_map.1 hv
    obtain ⟨j, hj, hjy⟩ := anc_mem.1 hy
    have := (key y (itU_mem hF hm hjy)).1 (of_decide_eq_true h)
    subst this
    obtain ⟨j', h1, h2⟩ := ret_early hF hm j hjy
    exact ⟨y, anc_mem.2 ⟨j', h1, h2⟩, decide_eq_true rfl⟩
  · rintro ⟨y, hy, h⟩
    have h := of_decide_eq_true h
    obtain ⟨j, hj, hjy⟩ := anc_mem.1 hy
    have hyl := itU_mem hF hm hjy
    have e : y = x := by
      have h1 := hF.get y hyl
      rw [h, hF.get x hm] at h1; cases h1; rfl
    subst e
    refine ⟨plc l y.id, List.mem_map.2 ⟨y, anc_mem.2 ⟨j, by omega, hjy⟩, rfl⟩, ?_⟩
    exact decide_eq_true ((key y hm).2 rfl)
theorem abv_n {l : List Item} (hd : DistI l) (hn : ∀ (i : Nat), i < l.length → retB l i = false) {i : Nat} {x : Item} (hx : l[i]? = some x) : ((abv l i).1.length : Int) = (paF (itm l) x.id l.length 0 x).1 := by
  have hF := fam_itm hd
  have hm := List.mem_of_getElem? hx
  have hno : ∀ y ∈ l, ∀ j, j < l.length → itU (itm l) (j + 1) y ≠ some y := by
    intro y hy j hj h
    obtain ⟨k, hk⟩ := List.mem_iff_getElem?.1 hy
    have hkl := (List.getElem?_eq_some_iff.1 hk).1
    have := hn k hkl
    rw [ret_eq hd hk, paF_loop] at this
    have h2 : ((anc (itm l) l.length y).any fun p => decide (p.id = y.id)) = true := List.any_eq_true.2 ⟨y, anc_mem.2 ⟨j, hj, h⟩, decide_eq_true rfl⟩
    rw [this] at h2; cases h2
  have hl : (paF (itm l) x.id l.length 0 x).2 = false := by
    rw [← ret_eq hd hx]; exact hn i (List.getElem?_eq_some_iff.1 hx).1
  rw [paF_n _ _ _ _ hl, abv_anc l i x hx, List.length_map]
  have e0 := no_ret hF hno hm
  have e1 : itU (itm l) (l.length + 1) x = none := by
    rw [itU_add, e0]; rfl
  rw [anc_stop _ _ e1]; omega
end Go.Pv
/- Digests: both sides are sixteen digits of the same number. -/
namespace Go.Pv
open Go Go.Proofs

/-! ### Plain: hexadecimal numbers -/
def hexT : List UInt8 := [48, 49, 50, 51, 52, 53, 54, 55, 56, 57, 97, 98, 99, 100, 101, 102]
def hexD (d : Nat) : UInt8 := hexT.getD d 0
/-- So many digits. -/
def hexN : Nat → Nat → List UInt8
  | 0, _ => []
  | k + 1, h => hexN k (h / 16) ++ [hexD (h % 16)]
/-- As few digits as there are. -/
def hexU : Nat → Nat → List UInt8
  | 0, h => [hexD h]
  | k + 1, h => if h < 16 then [hexD h] else hexU k (h / 16) ++ [hexD (h % 16)]
theorem hexN_len : ∀ (k h : Nat), (hexN k h).length = k
  | 0, h => rfl
  | k + 1, h => by simp [hexN, hexN_len k]
theorem hexU_len : ∀ (k h : Nat), 1 ≤ (hexU k h).length ∧ (hexU k h).length ≤ k + 1
  | 0, h => by simp [hexU]
  | k + 1, h => by
    rw [hexU]
    split
    · simp
    · have := hexU_len k (h / 16); simp; omega
theorem hexN_zero : ∀ k, hexN k 0 = List.replicate k 48
  | 0 => rfl
  | k + 1 => by
    rw [hexN, Nat.zero_div, hexN_zero k, Nat.zero_mod, List.replicate_succ']; rfl
theorem hexN_pad : ∀ (k h : Nat), h < 16 ^ (k + 1) → hexN (k + 1) h = List.replicate (k + 1 - (hexU k h).length) 48 ++ hexU k h
  | 0, h, hh => by
    have hh : h < 16 := by simpa using hh
    rw [hexN, hexN, hexU, Nat.mod_eq_of_lt hh]; rfl
  | k + 1, h, hh => by
    rw [hexN, hexU]
    split
    · rename_i hl
      rw [Nat.div_eq_of_lt hl, hexN_zero, Nat.mod_eq_of_lt hl]; rfl
    · have hd : h / 16 < 16 ^ (k + 1) := by
        rw [Nat.div_lt_iff_lt_mul (by decide)]; rw [Nat.pow_succ] at hh; exact hh
      rw [hexN_pad k (h / 16) hd]
      have hl := hexU_len k (h / 16)
      have e : k + 1 + 1 - (hexU k (h / 16) ++ [hexD (h % 16)]).length = k + 1 - (hexU k (h / 16)).length := by simp
      rw [e, List.append_assoc]
/-! ### One step -/
def xorV (h : Int) (b : Int) : Int := bitI .xor .u64 h (IntKind.u64.wrap b)
def digS (h b : Int) : Int := IntKind.u64.wrap (xorV h b * 1099511628211)
theorem digS_sum (x : Int) : IntKind.u64.wrap ((IntKind.u64.wrap ((IntKind.u64.wrap ((IntKind.u64.wrap ((IntKind.u64.wrap ((IntKind.u64.wrap ((shlV .u64 x (40 : Int)) + (shlV .u64 x (8 : Int)))) + (shlV .u64 x (7 : Int)))) + (shlV .u64 x (5 : Int)))) + (shlV .u64 x (4 : Int)))) + (shlV .u64 x (1 : Int)))) + x) = IntKind.u64.wrap (x * 1099511628211) := by
  have e : ∀ n : Int, min n.toNat IntKind.u64.bits = min n.toNat 64 := fun n => rfl
  unfold shlV
  simp only [e, wu64m]
  have e1 : (2 : Int) ^ (min (40 : Int).toNat 64) = 1099511627776 := by decide
  have e2 : (2 : Int) ^ (min (8 : Int).toNat 64) = 256 := by decide
  have e3 : (2 : Int) ^ (min (7 : Int).toNat 64) = 128 := by decide
  have e4 : (2 : Int) ^ (min (5 : Int).toNat 64) = 32 := by decide
  have e5 : (2 : Int) ^ (min (4 : Int).toNat 64) = 16 := by decide
  have e6 : (2 : Int) ^ (min (1 : Int).toNat 64) = 2 := by decide
  rw [e1, e2, e3, e4, e5, e6]
  omega
def digF (s : ByteArray) (h : Int) : Nat → Nat → Int
  | _, 0 => h
  | i, m + 1 => digF s (digS h (bAt s i)) (i + 1) m
theorem digS_range (h b : Int) : 0 ≤ digS h b ∧ digS h b < 18446744073709551616 := by
  unfold digS; rw [wu64m]; omega
theorem digF_range (s : ByteArray) : ∀ (m i : Nat) (h : Int), 0 ≤ h ∧ h < 18446744073709551616 → 0 ≤ digF s h i m ∧ digF s h i m < 18446744073709551616
  | 0, i, h, hh => hh
  | m + 1, i, h, hh => digF_range s m (i + 1) _ (digS_range h _)
/-- The digest of a string. -/
def dig (s : ByteArray) : ByteArray := ⟨(hexN 16 (digF s 14695981039346656037 0 s.size).toNat).toArray⟩
theorem dig_sz (s : ByteArray) : (dig s).size = 16 := by
  show (hexN 16 _).toArray.size = 16
  rw [List.size_toArray, hexN_len]
theorem hex_sl (d : Nat) (hd : d < 16) (K : ByteArray → Out) : slS (⟨#[48, 49, 50, 51, 52, 53, 54, 55, 56, 57, 97, 98, 99, 100, 101, 102]⟩ : ByteArray) (d : Int) ((d + 1 : Nat) : Int) K = K ⟨#[hexD d]⟩ := by
  have h : d = 0 ∨ d = 1 ∨ d = 2 ∨ d = 3 ∨ d = 4 ∨ d = 5 ∨ d = 6 ∨ d = 7 ∨ d = 8 ∨ d = 9 ∨ d = 10 ∨ d = 11 ∨ d = 12 ∨ d = 13 ∨ d = 14 ∨ d = 15 := by omega
  rcases h with rfl | rfl | rfl | rfl | rfl | rfl | rfl | rfl | rfl | rfl | rfl | rfl | rfl | rfl | rfl | rfl <;> rfl
theorem hex_ix (d : Nat) (hd : d < 16) (K : Int → Out) : ixS (⟨#[48, 49, 50, 51, 52, 53, 54, 55, 56, 57, 97, 98, 99, 100, 101, 102, 103, 104, 105, 106, 107, 108, 109, 110, 111, 112, 113, 114, 115, 116, 117, 118, 119, 120, 121, 122]⟩ : ByteArray) (d : Int) K = K ((hexD d).toNat : Int) := by
  have h : d = 0 ∨ d = 1 ∨ d = 2 ∨ d = 3 ∨ d = 4 ∨ d = 5 ∨ d = 6 ∨ d = 7 ∨ d = 8 ∨ d = 9 ∨ d = 10 ∨ d = 11 ∨ d = 12 ∨ d = 13 ∨ d = 14 ∨ d = 15 := by omega
  rcases h with rfl | rfl | rfl | rfl | rfl | rfl | rfl | rfl | rfl | rfl | rfl | rfl | rfl | rfl | rfl | rfl <;> rfl
/-! ### The reference -/
theorem wuN {n : Nat} (h : n < 18446744073709551616) : IntKind.u64.wrap (n : Int) = n := wu64 (by omega) (by omega)
theorem DigestOf_L2 (fu n : Nat) : ∀ (m i k : Nat) (h : Nat) (out : List UInt8), i + m = 16 → m < k → h < 18446744073709551616 → out.length ≤ i →
    chaseref2_DigestOf_L2 fu n k (h : Int) ⟨out.toArray⟩ (i : Nat) = some ([.str ⟨(hexN m h ++ out).toArray⟩], [])
  | m, i, 0, h, out, hi, hk, hh, ho => by omega
  | 0, i, k + 1, h, out, hi, hk, hh, ho => by
    rw [chaseref2_DigestOf_L2_eq, cnd_decide, if_neg (by omega)]; rfl
  | m + 1, i, k + 1, h, out, hi, hk, hh, ho => by
    have e1 : Int.tmod (h : Int) (16 : Int) = ((h % 16 : Nat) : Int) := rfl
    have e2 : Int.tdiv (h : Int) (16 : Int) = ((h / 16 : Nat) : Int) := rfl
    have e3 : ((h % 16 : Nat) : Int) + 1 = ((h % 16 + 1 : Nat) : Int) := rfl
    rw [chaseref2_DigestOf_L2_eq, cnd_decide, if_pos (by omega), gd_pos (by decide), gd_pos (by decide), e1, e2, e3, wuN (by omega), hex_sl _ (by omega), stG_pos (by show 1 + out.toArray.size ≤ _; rw [List.size_toArray]; omega), gd_pos (by decide), wuN (by omega), i64s (by omega)]
    have e4 : (⟨#[hexD (h % 16)]⟩ : ByteArray) ++ ⟨out.toArray⟩ = ⟨(hexD (h % 16) :: out).toArray⟩ := by
      apply ByteArray.ext; simp
    rw [e4, DigestOf_L2 fu n m (i + 1) k (h / 16) _ (by omega) (by omega) (by omega) (by simp; omega), hexN, List.append_assoc]; rfl
theorem DigestOf_L1 (fu n : Nat) (s : ByteArray) (hs : s.size ≤ 400000) (hfu : 1000000 ≤ fu) : ∀ (m i k : Nat) (h : Int), i + m = s.size → m < k → 0 ≤ h ∧ h < 18446744073709551616 →
    chaseref2_DigestOf_L1 fu n k s h (s.size : Nat) (i : Nat) = some ([.str ⟨(hexN 16 (digF s h i m).toNat).toArray⟩], [])
  | m, i, 0, h, hi, hk, hh => by omega
  | 0, i, k + 1, h, hi, hk, hh => by
    rw [chaseref2_DigestOf_L1_eq, cnd_decide, if_neg (by omega)]
    obtain ⟨q, rfl⟩ : ∃ q : Nat, h = q := ⟨h.toNat, by omega⟩
    have := DigestOf_L2 fu n 16 0 fu q [] rfl (by omega) (by omega) (by simp)
    rw [List.append_nil] at this
    exact this
  | m + 1, i, k + 1, h, hi, hk, hh => by
    rw [chaseref2_DigestOf_L1_eq, cnd_decide, if_pos (by omega), ixS_pos (by omega) (by omega), gd_pos (by decide), gd_pos (by decide), gd_pos (by decide), gd_pos (by decide), gd_pos (by decide), gd_pos (by decide), digS_sum, Int.toNat_natCast, i64s (by omega)]
    exact DigestOf_L1 fu n s hs hfu m (i + 1) k (digS h (bAt s i)) (by omega) (by omega) (digS_range _ _)
theorem DigestOf_ok (fu n : Nat) (s : ByteArray) (hs : s.size ≤ 400000) (hfu : 1000000 ≤ fu) : ev fu (n + 1) 60 [.str s] [] = some ([.str (dig s)], []) := by
  rw [chaseref2_DigestOf_eq]
  exact DigestOf_L1 fu n s hs hfu s.size 0 fu 14695981039346656037 (by omega) (by omega) (by omega)
/-! ### The program -/
theorem and15 (h : Nat) (hh : h < 18446744073709551616) : bitI .and .u64 (h : Int) 15 = ((h % 16 : Nat) : Int) := by
  have e1 : (BitVec.ofInt 64 (h : Int)).toNat = h := by rw [BitVec.toNat_ofInt]; omega
  have e2 : (BitVec.ofInt 64 (15 : Int)).toNat = 15 := by decide
  show IntKind.u64.wrap (((BitVec.ofInt 64 (h : Int)) &&& (BitVec.ofInt 64 (15 : Int))).toNat : Int) = _
  rw [BitVec.toNat_and, e1, e2, show (15 : Nat) = 2 ^ 4 - 1 from rfl, Nat.and_two_pow_sub_one_eq_mod]
  exact wuN (by omega)
theorem shr4 (h : Nat) : shrV .u64 (h : Int) 4 = ((h / 16 : Nat) : Int) := by
  unfold shrV
  have e1 : (2 : Int) ^ (min (4 : Int).toNat IntKind.u64.bits) = 16 := by decide
  rw [e1]
  show Int.fdiv (h : Int) ((16 : Nat) : Int) = _
  rw [Int.ofNat_fdiv]
def byC (b : UInt8) : List MV := [.int .u8 (b.toNat : Int)]
theorem unB_by : ∀ l : List UInt8, unB (l.map byC) = some (l.map fun b => (b.toNat : Int))
  | [] => rfl
  | b :: r => by
    have h : unB ((b :: r).map byC) = (match unB (r.map byC) with | some l => some ((b.toNat : Int) :: l) | none => none) := rfl
    rw [h, unB_by r]; rfl
theorem bS_by (l : List UInt8) (K : ByteArray → Out) : bS (l.map byC) K = K ⟨l.toArray⟩ := by
  unfold bS
  rw [unB_by]
  show K (bytesN _) = _
  congr 1
  unfold bytesN
  rw [List.map_map]
  congr 2
  conv => rhs; rw [← List.map_id l]
  exact List.map_congr_left fun b _ => by simp
/-- The array: what is not written yet, and what is. -/
def arr65 (i : Nat) (l : List UInt8) : List (List MV) := List.replicate i [.int .u8 (0 : Int)] ++ l.map byC
theorem arr_len {i : Nat} {l : List UInt8} (h : i + l.length = 65) : (arr65 i l).length = 65 := by simp [arr65, h]
theorem arr_get {i : Nat} {l : List UInt8} : (arr65 (i + 1) l)[i]? = some [.int .u8 (0 : Int)] := by
  unfold arr65
  rw [List.getElem?_append_left (by simp), List.getElem?_replicate, if_pos (by omega)]
theorem arr_set {i : Nat} {l : List UInt8} (b : UInt8) : (arr65 (i + 1) l).set i (ovr [.int .u8 (0 : Int)] 0 [.int .u8 (b.toNat : Int)]) = arr65 i (b :: l) := by
  have e : ovr [.int .u8 (0 : Int)] 0 [.int .u8 (b.toNat : Int)] = byC b := rfl
  unfold arr65
  rw [e, List.replicate_succ', List.append_assoc, List.set_append, if_neg (by simp)]
  simp
theorem arr_drop {i : Nat} {l : List UInt8} : (arr65 i l).drop i = l.map byC := by
  unfold arr65
  rw [List.drop_append, List.drop_of_length_le (by simp)]
  simp
theorem w1 {i : Nat} (h : i < 1000) : IntKind.i64.wrap (((i + 1 : Nat) : Int) - 1) = (i : Int) := by rw [w64 (by omega) (by omega)]; omega
theorem formatBits_L1 (fu n : Nat) : ∀ (q i k : Nat) (h : Nat) (l : List UInt8), q ≤ i → q < k → h < 18446744073709551616 → h < 16 ^ (q + 1) → i + 1 + l.length = 65 →
    internal_strconv_formatBits_L1 fu n k (h : Int) [] ⟨#[]⟩ ((i + 1 : Nat) : Int) (4 : Int) (16 : Int) (15 : Int) (arr65 (i + 1) l) = some ([.list [], .str ⟨(hexU q h ++ l).toArray⟩], [])
  | q, i, 0, h, l, hq, hk, hh, h16, hl => by omega
  | q, i, k + 1, h, l, hq, hk, hh, h16, hl => by
    have rg : ∀ K : List MV → Out, rdN (arr65 (i + 1) l) i K = K [.int .u8 (0 : Int)] := fun K => rdN_get arr_get K
    have fin : h < 16 → internal_strconv_formatBits_L1 fu n (k + 1) (h : Int) [] ⟨#[]⟩ ((i + 1 : Nat) : Int) (4 : Int) (16 : Int) (15 : Int) (arr65 (i + 1) l) = some ([.list [], .str ⟨([hexD h] ++ l).toArray⟩], []) := by
      intro hs
      rw [internal_strconv_formatBits_L1_eq, cnd_decide, if_neg (by omega), hex_ix h hs, w1 (by omega), ixG_pos (by omega) (by omega), Int.toNat_natCast, rg, arr_set, gd_pos ⟨arr_len (by simp; omega), by omega, by omega⟩, arr_drop, bS_by]; rfl
    cases q with
    | zero => exact fin (by simpa using h16)
    | succ q =>
      rw [hexU]
      split
      · rename_i hs; exact fin hs
      · rename_i hs
        have hd : h / 16 < 16 ^ (q + 1) := by
          rw [Nat.div_lt_iff_lt_mul (by decide)]; rw [Nat.pow_succ] at h16; exact h16
        obtain ⟨i, rfl⟩ : ∃ j, i = j + 1 := ⟨i - 1, by omega⟩
        have ih := formatBits_L1 fu n q i k (h / 16) (hexD (h % 16) :: l) (by omega) (by omega) (by omega) hd (by simp; omega)
        rw [internal_strconv_formatBits_L1_eq, cnd_decide, if_pos (by omega), and15 h hh, hex_ix _ (by omega), w1 (by omega), ixG_pos (by omega) (by omega), Int.toNat_natCast, rg, gd_pos (by decide), shr4, arr_set, ih, List.append_assoc]; rfl
theorem TZ_ev (fu n : Nat) (x : Int) (h : 0 ≤ x ∧ x < 18446744073709551616) : ev fu (n + 1) 198 [.int .u64 x] [] = some ([.int .i64 ((Go.Lib.ctz 64 x.toNat : Nat) : Int)], []) := by
  have e : ev fu (n + 1) 198 [.int .u64 x] [] = tzH (evs fu n) [.int .u64 x] [] := rfl
  rw [e]; exact if_pos h
theorem Pow2_16 (fu n : Nat) : ev fu (n + 1) 197 [.int .i64 16] [] = some ([.bool true], []) := by
  rw [internal_strconv_isPowerOfTwo_eq]; kernel_rfl
theorem FormatUint_ok (fu n : Nat) (h : Nat) (hh : h < 18446744073709551616) (hfu : 1000000 ≤ fu) : ev fu (n + 4) 111 [.int .u64 h, .int .i64 16] [] = some ([.str ⟨(hexU 15 h).toArray⟩], []) := by
  have h1 := formatBits_L1 fu (n + 1) 15 64 fu h [] (by omega) (by omega) hh (by simpa using hh) (by simp)
  have e4 : Go.Lib.ctz 64 (16 : Int).toNat = 4 := by decide
  have hb : ev fu (n + 2) 173 [.nil, .int .u64 (h : Int), .int .i64 16, .bool false, .bool false] [] = some ([.list [], .str ⟨(hexU 15 h).toArray⟩], []) := by
    rw [internal_strconv_formatBits_eq, cnd_decide, if_neg (by decide), cnd_decide, if_neg (by decide), cnd_decide, if_neg (by decide), Pow2_16, rB_some, cnd_true, show IntKind.u64.wrap (16 : Int) = 16 by decide, TZ_ev fu n 16 (by decide), rI_some, e4]
    rw [List.append_nil] at h1
    exact h1
  rw [strconv_FormatUint_eq, internal_strconv_FormatUint_eq, cnd_decide, if_neg (by decide), hb]
  simp only [callE_some', unXN_nil, unC_cons, dL_list, dS_str, unN_nil, rS_some]
theorem RepeatZ_ev (fu n : Nat) (c : Nat) (h : c ≤ 1000) : ev fu (n + 1) 50 [.str ⟨#[48]⟩, .int .i64 c] [] = some ([.str ⟨(List.replicate c 48).toArray⟩], []) := by
  have e : ev fu (n + 1) 50 [.str ⟨#[48]⟩, .int .i64 c] [] = repeatH (evs fu n) [.str ⟨#[48]⟩, .int .i64 c] [] := rfl
  have e2 : Go.Lib.repeatL [48] c = List.replicate c 48 := by
    have := Go.Lib.repeatL_replicate 48 1 c
    simpa using this
  rw [e]
  refine (if_pos ⟨by omega, by omega, by show 1 * _ ≤ _; omega⟩).trans ?_
  rw [Int.toNat_natCast]
  show some ([MV.str ⟨(Go.Lib.repeatL [48] c).toArray⟩], ([] : Bxs)) = _
  rw [e2]
theorem Digest_L1 (fu n : Nat) (s : ByteArray) (hs : s.size ≤ 400000) (hfu : 1000000 ≤ fu) : ∀ (m i k : Nat) (h : Int), i + m = s.size → m < k → 0 ≤ h ∧ h < 18446744073709551616 →
    intake_Digest_L1 fu (n + 4) k s h (s.size : Nat) (i : Nat) = some ([.str ⟨(hexN 16 (digF s h i m).toNat).toArray⟩], [])
  | m, i, 0, h, hi, hk, hh => by omega
  | 0, i, k + 1, h, hi, hk, hh => by
    obtain ⟨q, rfl⟩ : ∃ q : Nat, h = q := ⟨h.toNat, by omega⟩
    have hl := hexU_len 15 q
    have e1 : (⟨(hexU 15 q).toArray⟩ : ByteArray).size = (hexU 15 q).length := List.size_toArray
    have e2 : IntKind.i64.wrap ((16 : Int) - ((hexU 15 q).length : Nat)) = ((16 - (hexU 15 q).length : Nat) : Int) := by rw [w64 (by omega) (by omega)]; omega
    rw [intake_Digest_L1_eq, cnd_decide, if_neg (by omega), FormatUint_ok fu n q (by omega) hfu, rS_some, e1, e2, RepeatZ_ev fu (n + 3) _ (by omega), rS_some, stG_pos (by rw [e1]; show (List.toArray _).size + _ ≤ _; rw [List.size_toArray, List.length_replicate]; omega)]
    have e3 : digF s (q : Int) i 0 = q := rfl
    rw [e3, Int.toNat_natCast, hexN_pad 15 q (show q < 16 ^ 16 by have := hh.2; simp; omega)]
    have e4 : (⟨(List.replicate (16 - (hexU 15 q).length) 48).toArray⟩ : ByteArray) ++ ⟨(hexU 15 q).toArray⟩ = ⟨(List.replicate (15 + 1 - (hexU 15 q).length) 48 ++ hexU 15 q).toArray⟩ := by
      apply ByteArray.ext; simp
    rw [e4]
  | m + 1, i, k + 1, h, hi, hk, hh => by
    rw [intake_Digest_L1_eq, cnd_decide, if_pos (by omega), ixS_pos (by omega) (by omega), Int.toNat_natCast, i64s (by omega)]
    exact Digest_L1 fu n s hs hfu m (i + 1) k (digS h (bAt s i)) (by omega) (by omega) (digS_range _ _)
theorem Digest_ok (fu n : Nat) (s : ByteArray) (hs : s.size ≤ 400000) (hfu : 1000000 ≤ fu) : ev fu (n + 5) 70 [.str s] [] = some ([.str (dig s)], []) := by
  rw [intake_Digest_eq]
  exact Digest_L1 fu n s hs hfu s.size 0 fu 14695981039346656037 (by omega) (by omega) (by omega)
end Go.Pv
/- Chapter 1: the program's checks of items together. -/
namespace Go.Pv
open Go Go.Proofs

def itemM (x : Item) : MV := .agg (itemC x)
def item0 : Item := ⟨ByteArray.empty, ByteArray.empty, 0, ByteArray.empty, 0, ByteArray.empty, ByteArray.empty⟩
section
variable {α : Type}
/-- What a map has of items. -/
theorem mgItem (M : List (ByteArray × Item)) (k : ByteArray) (K : Bool → ByteArray → ByteArray → Int → ByteArray → Int → ByteArray → ByteArray → Option α) :
    mgE (smap itemM M) (.str k) (.agg [.str ByteArray.empty, .str ByteArray.empty, .int .i64 (0 : Int), .str ByteArray.empty, .int .i64 (0 : Int), .str ByteArray.empty, .str ByteArray.empty]) (fun b m24 => (dA m24 fun c25 => (unC c25 fun m26 c27 => (dS m26 fun x28 => (unC c27 fun m29 c30 => (dS m29 fun x31 => (unC c30 fun m32 c33 => (dI .i64 m32 fun x34 => (unC c33 fun m35 c36 => (dS m35 fun x37 => (unC c36 fun m38 c39 => (dI .i64 m38 fun x40 => (unC c39 fun m41 c42 => (dS m41 fun x43 => (unC c42 fun m44 c45 => (dS m44 fun x46 => (unN c45 (K b x28 x31 x34 x37 x40 x43 x46)))))))))))))))))) =
      K (aget M k).isSome ((aget M k).getD item0).id ((aget M k).getD item0).cust ((aget M k).getD item0).kind ((aget M k).getD item0).name ((aget M k).getD item0).at_ ((aget M k).getD item0).parent ((aget M k).getD item0).text := by
  rw [mgE_smap]
  cases aget M k with
  | none => simp only [dA_agg, unC_cons, dS_str, dI_int, unN_nil, Option.isSome_none, Option.getD_none]; rfl
  | some x => simp only [itemM, itemC, dA_agg, unC_cons, dS_str, dI_int, unN_nil, Option.isSome_some, Option.getD_some]
theorem skItem (l : List (List MV)) (a : Int) (x : Item) (K : List (List MV) → Int → ByteArray → ByteArray → Int → ByteArray → Int → ByteArray → ByteArray → Option α) :
    (callE (some ([.agg (itemC x)], [some (.box [.list l, .int .i64 a])])) fun r38 B39 => (unX B39 fun o40 B41 => (dBx o40 fun c42 => (unC c42 fun m43 c44 => (dL m43 fun x45 => (unC c44 fun m46 c47 => (dI .i64 m46 fun x48 => (unN c47 (unXN B41 (unC r38 fun m49 r50 => (dA m49 fun c51 => (unC c51 fun m52 c53 => (dS m52 fun x54 => (unC c53 fun m55 c56 => (dS m55 fun x57 => (unC c56 fun m58 c59 => (dI .i64 m58 fun x60 => (unC c59 fun m61 c62 => (dS m61 fun x63 => (unC c62 fun m64 c65 => (dI .i64 m64 fun x66 => (unC c65 fun m67 c68 => (dS m67 fun x69 => (unC c68 fun m70 c71 => (dS m70 fun x72 => (unN c71 (unN r50 (K x45 x48 x54 x57 x60 x63 x66 x69 x72)))))))))))))))))))))))))))) =
      K l a x.id x.cust x.kind x.name x.at_ x.parent x.text := by
  simp only [callE_some', itemC, unX_cons, dBx_box, unC_cons, dL_list, dI_int, dS_str, dA_agg, unN_nil, unXN_nil]
end

/-! ### byId -/
def byIdF : List Item → List (ByteArray × Item) → List (ByteArray × Item)
  | [], M => M
  | x :: r, M => byIdF r (aset M x.id x)
def byIdL (l : List Item) : List (ByteArray × Item) := byIdF l []
theorem byId_L1 (fu n : Nat) (l : List Item) (hl : l.length ≤ 400000) : ∀ (m i k : Nat) (M : List (ByteArray × Item)), i + m = l.length → m < k →
    intake_byId_L1 fu n k (smap itemM M) (l.map itemC) (l.length : Nat) (i : Nat) = some ([.map (smap itemM (byIdF (l.drop i) M))], [])
  | m, i, 0, M, hi, hk => by omega
  | 0, i, k + 1, M, hi, hk => by
    rw [intake_byId_L1_eq, cnd_decide, if_neg (by omega), List.drop_of_length_le (by omega)]; rfl
  | m + 1, i, k + 1, M, hi, hk => by
    have hlt : i < l.length := by omega
    rw [intake_byId_L1_eq, cnd_decide, if_pos (by omega), rdItem hlt, gK_smap, i64s (by omega), List.drop_eq_getElem_cons hlt, byIdF]
    have e := mset_smap itemM M l[i].id l[i]
    unfold itemM itemC at e
    have ih := byId_L1 fu n l hl m (i + 1) k (aset M l[i].id l[i]) (by omega) (by omega)
    rw [← ih]
    congr 1
theorem byId_ok (fu n : Nat) (l : List Item) (hl : l.length ≤ 400000) (hfu : 1000000 ≤ fu) : ev fu (n + 1) 64 [.list (l.map itemC)] [] = some ([.map (smap itemM (byIdL l))], []) := by
  rw [intake_byId_eq, List.length_map]
  have := byId_L1 fu n l hl l.length 0 fu [] (by omega) (by omega)
  exact this
theorem byIdF_get : ∀ (l : List Item) (M : List (ByteArray × Item)) (k : ByteArray), DistI l → aget (byIdF l M) k = (match itm l k with | some y => some y | none => aget M k)
  | [], M, k, _ => rfl
  | x :: r, M, k, hd => by
    have hp := List.pairwise_cons.1 hd
    rw [byIdF, byIdF_get r _ k hp.2]
    show _ = match (List.find? (fun x => decide (x.id = k)) (x :: r)) with | some y => some y | none => aget M k
    rw [List.find?_cons, aget_aset]
    by_cases h : x.id = k
    · rw [decide_eq_true h]
      have : itm r k = none := by
        unfold itm
        rw [List.find?_eq_none]
        intro y hy
        have := hp.1 y hy
        rw [h] at this
        simpa using fun e => this e.symm
      rw [this]
      simp only [if_pos h.symm]
    · rw [decide_eq_false h]
      simp only [if_neg (fun e => h (Eq.symm e))]
      rfl
theorem byId_get {l : List Item} (hd : DistI l) : aget (byIdL l) = itm l := by
  funext k
  unfold byIdL
  rw [byIdF_get l [] k hd]
  cases itm l k <;> rfl
theorem byIdF_len : ∀ (l : List Item) (M : List (ByteArray × Item)), DistI l → (∀ x ∈ l, aget M x.id = none) → (byIdF l M).length = M.length + l.length
  | [], M, _, _ => rfl
  | x :: r, M, hd, hn => by
    have hp := List.pairwise_cons.1 hd
    rw [byIdF, byIdF_len r _ hp.2 (fun y hy => by
      rw [aget_aset, if_neg (fun e => hp.1 y hy e.symm)]
      exact hn y (List.mem_cons_of_mem _ hy))]
    have h := congrArg List.length (akeys_aset M x.id x)
    rw [hn x (List.mem_cons_self ..)] at h
    simp [akeys] at h
    rw [h, List.length_cons]; omega
theorem byId_len {l : List Item} (hd : DistI l) : (byIdL l).length = l.length := by
  unfold byIdL
  have := byIdF_len l [] hd (fun _ _ => rfl)
  simpa using this

/-! ### above, placed -/
theorem Pabove_L1 (fu n : Nat) (M : List (ByteArray × Item)) (x : Item) (N : Nat) (hN : N ≤ 1000000) : ∀ (m i k c : Nat) (y : Item), i + m = N → m < k → c ≤ i →
    intake_above_L1 fu n k (smap itemM M) x.id x.cust x.kind x.name x.at_ x.parent x.text (c : Nat) (N : Nat) (i : Nat) y.id y.cust y.kind y.name y.at_ y.parent y.text = some ([.int .i64 (paF (aget M) x.id m (c : Nat) y).1, .bool (paF (aget M) x.id m (c : Nat) y).2], [])
  | m, i, 0, c, y, hi, hk, hc => by omega
  | 0, i, k + 1, c, y, hi, hk, hc => by
    rw [intake_above_L1_eq, cnd_decide, if_neg (by omega)]; rfl
  | m + 1, i, k + 1, c, y, hi, hk, hc => by
    rw [intake_above_L1_eq, cnd_decide, if_pos (by omega), gK_smap, mgItem, paF]
    unfold parO
    by_cases hp : y.parent = ⟨#[]⟩
    · rw [if_pos hp, decide_eq_true hp, cnd_true]
      cases (aget M y.parent).isSome <;> rfl
    · rw [if_neg hp, decide_eq_false hp, cnd_false]
      cases e : aget M y.parent with
      | none => rfl
      | some p =>
        rw [Option.isSome_some, Bool.not_true, cnd_false, Option.getD_some, cnd_decide, i64s (by omega), i64s (by omega)]
        simp only
        by_cases h : p.id = x.id
        · rw [if_pos h, if_pos h]; rfl
        · rw [if_neg h, if_neg h]
          exact Pabove_L1 fu n M x N hN m (i + 1) k (c + 1) p (by omega) (by omega) (by omega)
theorem Pabove_ok (fu n : Nat) (M : List (ByteArray × Item)) (hM : M.length ≤ 400000) (x : Item) (hfu : 1000000 ≤ fu) : ev fu (n + 1) 65 [.map (smap itemM M), .agg (itemC x)] [] = some ([.int .i64 (paF (aget M) x.id M.length 0 x).1, .bool (paF (aget M) x.id M.length 0 x).2], []) := by
  unfold itemC
  rw [intake_above_eq, smap_len]
  exact Pabove_L1 fu n M x M.length (by omega) M.length 0 fu 0 x (by omega) (by omega) (by omega)
def pkE (g : ByteArray → Option Item) (x : Item) : Int := if (!decide (x.parent = ⟨#[]⟩) && ((g x.parent).isSome && (!decide (((g x.parent).getD item0).kind = 1) && !decide (((g x.parent).getD item0).kind = 3)))) = true then 16 else 0
theorem placed_ok (fu n : Nat) (M : List (ByteArray × Item)) (hM : M.length ≤ 400000) (x : Item) (hfu : 1000000 ≤ fu) : ev fu (n + 2) 66 [.map (smap itemM M), .agg (itemC x)] [] = some ([.int .i64 (fnz [pkE (aget M) x, if decide (4 < (paF (aget M) x.id M.length 0 x).1) = true then 2 else 0])], []) := by
  have h := Pabove_ok fu n M hM x hfu
  unfold itemC at h ⊢
  rw [intake_placed_eq, gK_smap, mgItem, out_fnz]
  have e : ∀ o : Out, cnd (!decide (x.parent = (⟨#[]⟩ : ByteArray))) (cnd (aget M x.parent).isSome (cnd (!decide (((aget M x.parent).getD item0).kind = 1)) (cnd (!decide (((aget M x.parent).getD item0).kind = 3)) (some ([.int .i64 (16 : Int)], [])) o) o) o) o = errO (pkE (aget M) x) o := by
    intro o
    unfold pkE
    cases decide (x.parent = (⟨#[]⟩ : ByteArray)) <;> cases (aget M x.parent).isSome <;> cases decide (((aget M x.parent).getD item0).kind = 1) <;> cases decide (((aget M x.parent).getD item0).kind = 3) <;> rfl
  rw [h]
  simp only [callE_some', unXN_nil, unC_cons, dI_int, dB_bool, unN_nil, When_ok, rI_some]
  rw [e]
  congr 2
  cases decide (4 < (paF (aget M) x.id M.length 0 x).1) <;> rfl
theorem parK_eq (l : List Item) (x : Item) : parK l x = pkE (itm l) x := by
  unfold parK pkE
  rcases itm_plc l x.parent with ⟨h1, h2⟩ | ⟨k, y, h1, h2, h3, h4⟩
  · rw [h1, h2]
    have e : decide ((0 : Int) ≤ -1) = false := rfl
    rw [e]
    split <;> simp
  · rw [h1, h3, Int.toNat_natCast, h2]
    have e : decide ((0 : Int) ≤ (k : Int)) = true := decide_eq_true (by omega)
    simp only [e, Option.isSome_some, Option.getD_some]

/-! ### In order -/
def prevI (l : List Item) (i : Nat) (x : Item) : Int := if 0 < i then (match l[i - 1]? with
  | some p => if (sless x.id p.id || decide (x.id = p.id)) = true then 7 else 0
  | none => 0) else 0
def lastId (l : List Item) (i : Nat) : ByteArray := if 0 < i then (match l[i - 1]? with
  | some p => p.id
  | none => ⟨#[]⟩) else ⟨#[]⟩
theorem itE_key {x : Item} (h : itE x = 0) : keyS x.id = true := by
  have := fnz0 _ h (if (!keyS x.id) = true then 5 else 0) (List.mem_cons_self ..)
  have := if_zero this (by decide)
  cases hk : keyS x.id with
  | true => rfl
  | false => rw [hk] at this; cases this
theorem items_same (l : List Item) : ∀ (m i : Nat), i + m = l.length →
    (errL (σ := Unit) (fun i _ x => fnz [itE x, prevI l i x]) (fun _ s _ => s) i () (l.drop i)).1 = (errL (fun _ last x => fnz [itE x, if (sless x.id last || decide (x.id = last)) = true then 7 else 0]) (fun _ _ x => x.id) i (lastId l i) (l.drop i)).1
  | 0, i, hi => by rw [List.drop_of_length_le (by omega)]; rfl
  | m + 1, i, hi => by
    have hlt : i < l.length := by omega
    have ih := items_same l m (i + 1) (by omega)
    rw [List.drop_eq_getElem_cons hlt, errL, errL]
    have e : fnz [itE l[i], prevI l i l[i]] = fnz [itE l[i], if (sless l[i].id (lastId l i) || decide (l[i].id = lastId l i)) = true then 7 else 0] := by
      unfold prevI lastId
      by_cases h0 : 0 < i
      · have hg : l[i - 1]? = some l[i - 1] := List.getElem?_eq_getElem (by omega)
        simp only [if_pos h0, hg]
      · simp only [if_neg h0]
        rw [sless_nil, Bool.false_or]
        by_cases h1 : itE l[i] = 0
        · rw [decide_eq_false (keyS_ne (itE_key h1))]; rfl
        · unfold fnz; rw [if_neg h1, if_neg h1]
    have el : lastId l (i + 1) = l[i].id := by
      unfold lastId
      rw [if_pos (by omega)]
      have hg : l[i + 1 - 1]? = some l[i] := by rw [Nat.add_sub_cancel]; exact List.getElem?_eq_getElem hlt
      rw [hg]
    rw [e]
    generalize fnz [itE l[i], if (sless l[i].id (lastId l i) || decide (l[i].id = lastId l i)) = true then 7 else 0] = z
    by_cases hz : z = 0
    · rw [if_pos hz, if_pos hz, ih, el]
    · rw [if_neg hz, if_neg hz]
theorem errO_two (a b : Int) : errO a (some ([.int .i64 b], [])) = some ([.int .i64 (fnz [a, b])], []) := by
  unfold errO
  simp only [fnz]
  by_cases h : a = 0
  · rw [if_pos h, if_pos h]
    by_cases h2 : b = 0
    · rw [if_pos h2, h2]
    · rw [if_neg h2]
  · rw [if_neg h, if_neg h]
/-- Keys that rise. -/
theorem rise_ok {β : Type} (key : β → ByteArray) (e : β → Int) : ∀ (l : List β) (i : Nat) (last : ByteArray), (errL (fun _ last x => fnz [e x, if (sless (key x) last || decide (key x = last)) = true then 7 else 0]) (fun _ _ x => key x) i last l).1 = 0 →
    (∀ x ∈ l, sless last (key x) = true ∧ e x = 0) ∧ l.Pairwise fun x y => sless (key x) (key y) = true
  | [], i, last, h => ⟨by simp, List.Pairwise.nil⟩
  | x :: r, i, last, h => by
    rw [errL] at h
    by_cases h0 : fnz [e x, if (sless (key x) last || decide (key x = last)) = true then 7 else 0] = 0
    · rw [if_pos h0] at h
      obtain ⟨h1, h2⟩ := rise_ok key e r (i + 1) (key x) h
      have hx := fnz0 _ h0 (e x) (by simp)
      have hs := if_zero (fnz0 _ h0 (if (sless (key x) last || decide (key x = last)) = true then 7 else 0) (by simp)) (by decide)
      rw [Bool.or_eq_false_iff] at hs
      have hs' := sless_tri hs.1 (of_decide_eq_false hs.2)
      refine ⟨fun y hy => ?_, List.pairwise_cons.2 ⟨fun y hy => (h1 y hy).1, h2⟩⟩
      rcases List.mem_cons.1 hy with rfl | hy
      · exact ⟨hs', hx⟩
      · exact ⟨sless_trans hs' (h1 y hy).1, (h1 y hy).2⟩
    · rw [if_neg h0] at h
      exact absurd h h0
theorem itemsL_ok {l : List Item} (h : itemsL l = 0) : (∀ x ∈ l, itE x = 0) ∧ (l.Pairwise fun x y => sless x.id y.id = true) ∧ DistI l := by
  obtain ⟨h1, h2⟩ := rise_ok (fun x : Item => x.id) itE l 0 ⟨#[]⟩ h
  exact ⟨fun x hx => (h1 x hx).2, h2, h2.imp fun {a b} q => sless_ne q⟩
/-! ### Check -/
theorem plc_itm (l : List Item) (id : ByteArray) : decide (plc l id < 0) = !(itm l id).isSome := by
  rcases itm_plc l id with ⟨h1, h2⟩ | ⟨k, y, h1, h2, h3, h4⟩
  · rw [h1, h2]; rfl
  · rw [h1, h3]; exact decide_eq_false (by omega)
theorem Check_L4 (fu n : Nat) (l : List Item) (hl : l.length ≤ 200000) (M : List (ByteArray × Item)) (hM : M.length ≤ 400000) (hfu : 1000000 ≤ fu) : intake_Check_L4 fu (n + 2) fu (smap itemM M) (l.map itemC) (l.length : Nat) (0 : Int) = some ([.int .i64 (errL (σ := Unit) (fun _ _ x => fnz [pkE (aget M) x, if decide (4 < (paF (aget M) x.id M.length 0 x).1) = true then 2 else 0]) (fun _ s _ => s) 0 () l).1], []) := by
  have h := err_loop l (fun k i (_ : Unit) => intake_Check_L4 fu (n + 2) k (smap itemM M) (l.map itemC) (l.length : Nat) i) (fun _ _ x => fnz [pkE (aget M) x, if decide (4 < (paF (aget M) x.id M.length 0 x).1) = true then 2 else 0]) (fun _ s _ => s) (fun _ => some ([.int .i64 0], []))
    (fun k s => by rw [intake_Check_L4_eq, cnd_decide, if_neg (by omega)])
    (fun k i s hi => by
      have hp := placed_ok fu n M hM l[i] hfu
      unfold itemC at hp
      rw [intake_Check_L4_eq, cnd_decide, if_pos (by omega), rdItem hi, hp, rI_some, cnd_err, i64s (by omega)]) l.length 0 fu () (by omega) (by omega)
  rw [List.drop_zero, errO_fin] at h
  exact h
theorem Check_L3 (fu n : Nat) (l : List Item) (hl : l.length ≤ 200000) (M : List (ByteArray × Item)) (hM : M.length ≤ 400000) (hfu : 1000000 ≤ fu) : intake_Check_L3 fu (n + 2) fu (l.map itemC) (smap itemM M) (l.map itemC) (l.length : Nat) (0 : Int) = errO (errL (σ := Unit) (fun _ _ x => if (paF (aget M) x.id M.length 0 x).2 = true then 14 else 0) (fun _ s _ => s) 0 () l).1 (intake_Check_L4 fu (n + 2) fu (smap itemM M) (l.map itemC) (l.length : Nat) (0 : Int)) := by
  have h := err_loop l (fun k i (_ : Unit) => intake_Check_L3 fu (n + 2) k (l.map itemC) (smap itemM M) (l.map itemC) (l.length : Nat) i) (fun _ _ x => if (paF (aget M) x.id M.length 0 x).2 = true then 14 else 0) (fun _ s _ => s) (fun _ => intake_Check_L4 fu (n + 2) fu (smap itemM M) (l.map itemC) (l.length : Nat) (0 : Int))
    (fun k s => by rw [intake_Check_L3_eq, cnd_decide, if_neg (by omega), List.length_map])
    (fun k i s hi => by
      have hp := Pabove_ok fu (n + 1) M hM l[i] hfu
      unfold itemC at hp
      rw [intake_Check_L3_eq, cnd_decide, if_pos (by omega), rdItem hi, hp]
      simp only [callE_some', unXN_nil, unC_cons, dI_int, dB_bool, unN_nil]
      rw [cnd_errc _ _ (show (14 : Int) ≠ 0 by decide), i64s (by omega)]) l.length 0 fu () (by omega) (by omega)
  rw [List.drop_zero] at h
  exact h
theorem Check_L2 (fu n : Nat) (l : List Item) (hl : l.length ≤ 200000) (M : List (ByteArray × Item)) (hM : M.length ≤ 400000) (hfu : 1000000 ≤ fu) : intake_Check_L2 fu (n + 2) fu (l.map itemC) (smap itemM M) (l.map itemC) (l.length : Nat) (0 : Int) = errO (errL (σ := Unit) (fun _ _ x => if (!decide (x.parent = ⟨#[]⟩) && !(aget M x.parent).isSome) = true then 8 else 0) (fun _ s _ => s) 0 () l).1 (intake_Check_L3 fu (n + 2) fu (l.map itemC) (smap itemM M) (l.map itemC) (l.length : Nat) (0 : Int)) := by
  have h := err_loop l (fun k i (_ : Unit) => intake_Check_L2 fu (n + 2) k (l.map itemC) (smap itemM M) (l.map itemC) (l.length : Nat) i) (fun _ _ x => if (!decide (x.parent = ⟨#[]⟩) && !(aget M x.parent).isSome) = true then 8 else 0) (fun _ s _ => s) (fun _ => intake_Check_L3 fu (n + 2) fu (l.map itemC) (smap itemM M) (l.map itemC) (l.length : Nat) (0 : Int))
    (fun k s => by rw [intake_Check_L2_eq, cnd_decide, if_neg (by omega), List.length_map])
    (fun k i s hi => by
      rw [intake_Check_L2_eq, cnd_decide, if_pos (by omega), rdItem hi, gK_smap, mgItem, i64s (by omega)]
      cases decide (l[i].parent = (⟨#[]⟩ : ByteArray)) <;> cases (aget M l[i].parent).isSome <;> rfl) l.length 0 fu () (by omega) (by omega)
  rw [List.drop_zero] at h
  exact h
theorem tree_same {l : List Item} (hd : DistI l) : fnz [(errL (σ := Unit) (fun _ _ x => if (paF (itm l) x.id l.length 0 x).2 = true then 14 else 0) (fun _ s _ => s) 0 () l).1, (errL (σ := Unit) (fun _ _ x => fnz [pkE (itm l) x, if decide (4 < (paF (itm l) x.id l.length 0 x).1) = true then 2 else 0]) (fun _ s _ => s) 0 () l).1] = treeE l := by
  have e3 : (errL (σ := Unit) (fun _ _ x => if (paF (itm l) x.id l.length 0 x).2 = true then 14 else 0) (fun _ s _ => s) 0 () l) = (errL (σ := Unit) (fun i _ _ => if retB l i = true then 14 else 0) (fun _ s _ => s) 0 () l) := by
    apply errL_congr
    intro j s x hx
    rw [Nat.zero_add, ret_eq hd hx]
  unfold treeE
  rw [e3]
  by_cases h : (errL (σ := Unit) (fun i _ _ => if retB l i = true then 14 else 0) (fun _ s _ => s) 0 () l).1 = 0
  · have hn : ∀ (i : Nat), i < l.length → retB l i = false := fun i hi => by
      have := errL_at (fun i _ _ => if retB l i = true then 14 else 0) l 0 h i l[i] (List.getElem?_eq_getElem hi)
      rw [Nat.zero_add] at this
      exact if_zero this (by decide)
    have e4 : (errL (σ := Unit) (fun _ _ x => fnz [pkE (itm l) x, if decide (4 < (paF (itm l) x.id l.length 0 x).1) = true then 2 else 0]) (fun _ s _ => s) 0 () l) = (errL (σ := Unit) (fun i _ x => fnz [parK l x, if decide ((4 : Int) < ((abv l i).1.length : Int)) = true then 2 else 0]) (fun _ s _ => s) 0 () l) := by
      apply errL_congr
      intro j s x hx
      rw [Nat.zero_add, parK_eq, abv_n hd hn hx]
    rw [e4]
  · simp only [fnz, if_neg h]
theorem Check_ok (fu n : Nat) (l : List Item) (hfu : 1000000 ≤ fu) : ev fu (n + 7) 15 [.list (l.map itemC)] [] = some ([.int .i64 (itemsE l)], []) := by
  rw [intake_Check_eq, List.length_map, cnd_errc _ _ (show (2 : Int) ≠ 0 by decide)]
  unfold itemsE
  rw [out_fnz]
  refine errO_congr fun h0 => ?_
  have hl : l.length ≤ 2000 := by
    by_cases h1 : (2000 : Int) < (l.length : Int)
    · rw [decide_eq_true h1] at h0; exact absurd h0 (by decide)
    · omega
  have h := err_loop l (fun k i (s : Unit) => intake_Check_L1 fu (n + 6) k (l.map itemC) (l.map itemC) (l.length : Nat) i) (fun i _ x => fnz [itE x, prevI l i x]) (fun _ s _ => s) (fun _ => intake_Check_L2 fu (n + 6) fu (l.map itemC) (smap itemM (byIdL l)) (l.map itemC) (l.length : Nat) (0 : Int))
    (fun k s => by rw [intake_Check_L1_eq, cnd_decide, if_neg (by omega), byId_ok fu (n + 5) l (by omega) hfu, rM_some, List.length_map])
    (fun k i s hi => by
      have hx := CheckItem_ok fu (n + 1) l[i] hfu
      unfold itemC at hx
      rw [intake_Check_L1_eq, cnd_decide, if_pos (by omega), rdItem hi]
      simp only [eqM_self', hx, When_ok, rI_some, First2_ok fu (n + 5) hfu, cnd_err, i64s (show i < 9223372036854775807 by omega)]
      unfold prevI
      by_cases h0 : 0 < i
      · have hm : mm2 true (i : Int) (1 : Int) = (i : Int) := by unfold mm2; simp; omega
        have hg : l[i - 1]? = some l[i - 1] := List.getElem?_eq_getElem (by omega)
        have hw : IntKind.i64.wrap ((i : Int) - 1) = ((i - 1 : Nat) : Int) := by rw [w64 (by omega) (by omega)]; omega
        have hr : ∀ K : List MV → Out, rd (l.map itemC) ((i - 1 : Nat) : Int) K = K (itemC l[i - 1]) := fun K => rdn hg K
        have hc : ∀ K : MV → Out, cel (itemC l[i - 1]) 0 K = K (.str l[i - 1].id) := fun _ => rfl
        rw [decide_eq_true (show (0 : Int) < (i : Int) by omega), cnd_true]
        simp only [hm, hw, hr, hc, itemC_len, gd_true, dS_str, eqM_self', When_ok, rI_some, First2_ok fu (n + 5) hfu, cnd_err, if_pos h0, hg]
      · rw [decide_eq_false (show ¬ (0 : Int) < (i : Int) by omega), cnd_false]
        simp only [if_neg h0]; rfl) l.length 0 fu () (by omega) (by omega)
  rw [List.drop_zero] at h
  refine h.trans ?_
  have hs := items_same l l.length 0 (by omega)
  rw [List.drop_zero] at hs
  rw [hs, out_fnz]
  show errO (itemsL l) _ = errO (itemsL l) _
  refine errO_congr fun hA => ?_
  obtain ⟨a1, a2, hd⟩ := itemsL_ok hA
  have eg := byId_get hd
  have eN := byId_len hd
  have e2 : (errL (σ := Unit) (fun _ _ x => if (!decide (x.parent = ⟨#[]⟩) && !(itm l x.parent).isSome) = true then 8 else 0) (fun _ s _ => s) 0 () l).1 = parL l := by
    unfold parL
    simp only [plc_itm]
  rw [Check_L2 fu (n + 4) l (by omega) (byIdL l) (by omega) hfu, Check_L3 fu (n + 4) l (by omega) (byIdL l) (by omega) hfu, Check_L4 fu (n + 4) l (by omega) (byIdL l) (by omega) hfu, eg, eN, e2, errO_two, errO_two, tree_same hd]
end Go.Pv
/- What the laws of chapter 1 end with. -/
namespace Go.Pv
open Go Go.Proofs

theorem taken_ok (fu n : Nat) (hfu : 1000000 ≤ fu) : ev fu (n + 20) 17 [] [] = some ([.bool true], []) := by
  obtain ⟨q, rfl⟩ : ∃ q, fu = q + 50 := ⟨fu - 50, by omega⟩
  kernel_rfl
end Go.Pv
/- Chapter 1: sums of items; items of streams that are nearly right. -/
namespace Go.Pv
open Go Go.Proofs

/-! ### Sums -/
def sumS (x : Item) : ByteArray := dig ((kindS x.kind ++ (⟨#[10]⟩ : ByteArray)) ++ x.text)
theorem itE_kind {x : Item} (h : itE x = 0) : x.kind = 1 ∨ x.kind = 2 ∨ x.kind = 3 ∨ x.kind = 4 := by
  have := if_zero (fnz0 _ h (if (!inB x.kind 1 4) = true then 4 else 0) (by simp)) (by decide)
  rw [Bool.not_eq_false'] at this
  have := of_decide_eq_true this
  omega
theorem itE_text {x : Item} (h : itE x = 0) : x.text.size ≤ 20000 := by
  have := if_zero (fnz0 _ h (if decide ((20000 : Int) < (x.text.size : Int)) = true then 2 else 0) (by simp)) (by decide)
  have := of_decide_eq_false this
  omega
theorem kindS_sz (k : Int) : (kindS k).size ≤ 4 := by
  unfold kindS
  repeat' split
  all_goals decide
theorem sum_ok (fu n : Nat) (x : Item) (hx : x.text.size ≤ 300000) (hfu : 1000000 ≤ fu) : ev fu (n + 6) 51 [.agg (itemC x)] [] = some ([.str (sumS x)], []) := by
  have hk := kindS_sz x.kind
  have h10 : (⟨#[10]⟩ : ByteArray).size = 1 := rfl
  have hs : (kindS x.kind ++ (⟨#[10]⟩ : ByteArray)).size ≤ 5 := by rw [ByteArray.size_append, h10]; omega
  unfold itemC
  rw [intake_sum_eq, kindWord_ok, rS_some, stG_pos (by rw [h10]; omega), stG_pos (by omega), Digest_ok fu n _ (by rw [ByteArray.size_append]; omega) hfu, rS_some]; rfl
theorem Sum_ok (fu n : Nat) (x : Item) (hfu : 1000000 ≤ fu) : ev fu (n + 7) 11 [.agg (itemC x)] [] = some ([.str (if itE x = 0 then sumS x else ⟨#[]⟩), .int .i64 (itE x)], []) := by
  have h1 := CheckItem_ok fu (n + 1) x hfu
  have h2 : itE x = 0 → _ := fun h => sum_ok fu n x (by have := itE_text h; omega) hfu
  unfold itemC at h1 h2 ⊢
  rw [intake_Sum_eq, h1, rI_some]
  by_cases h : itE x = 0
  · rw [decide_eq_true h, Bool.not_true, cnd_false, h2 h, rS_some, if_pos h, h]
  · rw [decide_eq_false h, Bool.not_false, cnd_true, if_neg h]
theorem KindW_ev (fu n : Nat) (k : Int) (h : k = 0 ∨ k = 1 ∨ k = 2 ∨ k = 3 ∨ k = 4) : ev fu (n + 1) 61 [.int .i64 k] [] = some ([.str (kindS k)], []) := by
  have e : ev fu (n + 1) 61 [.int .i64 k] [] = kindH (evs fu n) [.int .i64 k] [] := rfl
  rw [e]; exact if_pos h
theorem SumOf_ok (fu n : Nat) (x : Item) (h : itE x = 0) (hfu : 1000000 ≤ fu) : ev fu (n + 2) 14 [.agg (itemC x)] [] = some ([.str (sumS x)], []) := by
  have hk := kindS_sz x.kind
  have ht := itE_text h
  have h10 : (⟨#[10]⟩ : ByteArray).size = 1 := rfl
  have hs : (kindS x.kind ++ (⟨#[10]⟩ : ByteArray)).size ≤ 5 := by rw [ByteArray.size_append, h10]; omega
  unfold itemC
  rw [chaseref2_SumOf_eq, KindW_ev fu n _ (.inr (itE_kind h)), rS_some, stG_pos (by rw [h10]; omega), stG_pos (by omega), DigestOf_ok fu n _ (by rw [ByteArray.size_append]; omega) hfu, rS_some]; rfl
/-! ### Items of streams -/
theorem set_ItS {l : List Item} (hl : ∀ x ∈ l, ItS x) {x : Item} (hx : ItS x) (i : Nat) : ∀ y ∈ l.set i x, ItS y := fun y hy => by
  rcases List.mem_or_eq_of_mem_set hy with h | h
  · exact hl y h
  · subst h; exact hx
theorem ovr_kind (x : Item) (k : Int) : ovr (itemC x) 2 [.int .i64 k] = itemC { x with kind := k } := rfl
theorem ovr_all (x y : Item) : ovr (itemC x) 0 [.str y.id, .str y.cust, .int .i64 y.kind, .str y.name, .int .i64 y.at_, .str y.parent, .str y.text] = itemC y := rfl
theorem Items_L1 (fu n : Nat) (ls : List Int) : ∀ (m i k : Nat) (l : List Item) (at_ : Int), 1 ≤ l.length → l.length ≤ 2000 → (∀ x ∈ l, ItS x) → i + m = 4 → m < k → 0 ≤ at_ → at_ + 2 * m < 4000000000000000000 →
    ∃ (l' : List Item) (a : Int), l'.length = l.length ∧ (∀ x ∈ l', ItS x) ∧ at_ ≤ a ∧ a ≤ at_ + 2 * m ∧ chasemake_Stream_Items_L1 fu (n + 2) k (l.map itemC) (i : Nat) (ls.map i1) at_ = some ([.ref 1], [some (.box [.list (ls.map i1), .int .i64 a]), some (.row false 7 (l'.map itemC) [])])
  | m, i, 0, l, at_, hl, hl2, hs, hi, hk, h0, h1 => by omega
  | 0, i, k + 1, l, at_, hl, hl2, hs, hi, hk, h0, h1 => by
    rw [chasemake_Stream_Items_L1_eq, cnd_decide, if_neg (by omega)]
    exact ⟨l, at_, rfl, hs, by omega, by omega, rfl⟩
  | m + 1, i, k + 1, l, at_, hl, hl2, hs, hi, hk, h0, h1 => by
    obtain ⟨x5, hx5, g1⟩ := Next_ok fu n ls at_ (l.length : Nat) (by omega) (by omega)
    obtain ⟨x10, hx10, g2⟩ := Next_ok fu n ls (at_ + 1) (l.length : Nat) (by omega) (by omega)
    have hx5 := hx5 (by omega) (by omega)
    have hx10 := hx10 (by omega) (by omega)
    obtain ⟨p, rfl⟩ : ∃ p : Nat, x5 = p := ⟨x5.toNat, by omega⟩
    obtain ⟨q, rfl⟩ : ∃ q : Nat, x10 = q := ⟨x10.toNat, by omega⟩
    have hp : p < l.length := by omega
    have hq : q < l.length := by omega
    have r1 : ∀ K : List MV → Out, rdN (l.map itemC) p K = K (itemC l[p]) := fun K => rdN_get (by simp [hp]) K
    have r2 : ∀ K : List MV → Out, rdN (l.map itemC) q K = K (itemC l[q]) := fun K => rdN_get (by simp [hq]) K
    have x1 : ∀ o : Out, ixG (l.map itemC).length (p : Int) o = o := fun o => ixG_n (by simpa using hp) o
    have x2 : ∀ o : Out, ixG (l.map itemC).length (q : Int) o = o := fun o => ixG_n (by simpa using hq) o
    have c2 : ∀ (x : Item) (K : MV → Out), cel (itemC x) 0 K = K (.str x.id) := fun _ _ => rfl
    have hpS := hs l[p] (List.getElem_mem hp)
    have hqS := hs l[q] (List.getElem_mem hq)
    have h1' : ItS { l[p] with parent := l[q].id } := ⟨hpS.id, hpS.cust, hpS.name, hqS.id, hpS.text⟩
    obtain ⟨l', a, b1, b2, b3, b4, g⟩ := Items_L1 fu n ls m (i + 1) k (l.set p { l[p] with parent := l[q].id }) (at_ + 1 + 1) (by simpa using hl) (by simpa using hl2) (set_ItS hs h1' p) (by omega) (by omega) (by omega) (by omega)
    refine ⟨l', a, by simpa using b1, b2, by omega, by omega, ?_⟩
    rw [chasemake_Stream_Items_L1_eq, cnd_decide, if_pos (by omega), List.length_map, g1, skI_some, g2, skI_some]
    rw [List.length_map] at x1 x2
    simp only [x1, x2, Int.toNat_natCast, r1, r2, c2, dS_str]
    rw [i64s (by omega), ovr_par, ← g, List.map_set]
theorem Items_J1 (fu n : Nat) (hfu : 1000000 ≤ fu) (ls : List Int) (at_ : Int) (N : Nat) (hN : N ≤ 1000) (l : List Item) (hl : 1 ≤ l.length) (hl2 : l.length ≤ 1000) (hs : ∀ x ∈ l, ItS x) (h0 : 0 ≤ at_) (h1 : at_ < 800000000000000000) :
    ∃ (l' : List Item) (a : Int), l'.length ≤ l.length + 1 ∧ (∀ x ∈ l', ItS x) ∧ 0 ≤ a ∧ a ≤ at_ + 500 ∧ chasemake_Stream_Items_J1 fu (n + 5) (N : Nat) (l.map itemC) true (ls.map i1) at_ = some ([.ref 1], [some (.box [.list (ls.map i1), .int .i64 a]), some (.row false 7 (l'.map itemC) [])]) := by
  obtain ⟨x5, hx5, g1⟩ := Next_ok fu (n + 3) ls at_ (l.length : Nat) (by omega) (by omega)
  obtain ⟨x10, hx10, g2⟩ := Next_ok fu (n + 3) ls (at_ + 1) 5 (by omega) (by omega)
  have hx5 := hx5 (by omega) (by omega)
  obtain ⟨p, rfl⟩ : ∃ p : Nat, x5 = p := ⟨x5.toNat, by omega⟩
  have hp : p < l.length := by omega
  have r1 : ∀ K : List MV → Out, rdN (l.map itemC) p K = K (itemC l[p]) := fun K => rdN_get (by simp [hp]) K
  have x1 : ∀ o : Out, ixG l.length (p : Int) o = o := fun o => ixG_n hp o
  have c2 : ∀ (x : Item) (K : MV → Out), cel (itemC x) 0 K = K (.str x.id) := fun _ _ => rfl
  have hpS := hs l[p] (List.getElem_mem hp)
  rw [chasemake_Stream_Items_J1_eq, cnd_true, List.length_map]
  unfold sb at g1 g2
  rw [g1, skI_some, g2, skI_some, cnd_decide]
  by_cases k0 : x10 = 0
  · obtain ⟨x21, hx21, g3⟩ := Next_ok fu (n + 3) ls (at_ + 1 + 1) (N : Nat) (by omega) (by omega)
    obtain ⟨id, hid, g4⟩ := itemId_ok fu (n + 4) x21
    obtain ⟨x33, q33, g5⟩ := some10_ok fu (n + 2) ls (at_ + 1 + 1 + 1) [[.str ⟨#[105, 122, 122]⟩], [.str id], [.str l[p].id]] [⟨#[105, 122, 122]⟩, id, l[p].id] rfl (by omega) (by omega) (by simp) (by simp)
    have z33 : x33.size ≤ 10 := by
      simp only [List.mem_cons, List.not_mem_nil, or_false] at q33
      rcases q33 with rfl | rfl | rfl
      · decide
      · exact hid
      · exact hpS.id
    unfold sb at g3 g5
    rw [if_pos k0]
    simp only [x1, Int.toNat_natCast, r1, c2, dS_str, eqM_self', g3, skI_some, g4, rS_some, g5, skS_some, ovr_par]
    have hx' : ItS { l[p] with parent := x33 } := ⟨hpS.id, hpS.cust, hpS.name, z33, hpS.text⟩
    exact ⟨l.set p { l[p] with parent := x33 }, at_ + 1 + 1 + 1 + 1, by simp, set_ItS hs hx' p, by omega, by omega, by rw [List.map_set]⟩
  rw [if_neg k0, cnd_decide]
  by_cases k1 : x10 = 1
  · obtain ⟨x, a, hx, b1, b2, g3⟩ := Item_ok fu n hfu ls (at_ + 1 + 1) l[p].id hpS.id (by omega) (by omega)
    unfold sb at g3
    rw [if_pos k1]
    simp only [x1, Int.toNat_natCast, r1, c2, dS_str]
    rw [g3, skItem]
    simp only [x1, r1, ovr_all]
    exact ⟨l.set p x, a, by simp, set_ItS hs hx p, by omega, by omega, by rw [List.map_set]⟩
  rw [if_neg k1, cnd_decide]
  by_cases k2 : x10 = 2
  · have r0 : ∀ K : List MV → Out, rdN (l.map itemC) (Int.toNat 0) K = K (itemC l[0]) := fun K => rdN_get (by show (l.map itemC)[0]? = _; rw [List.getElem?_map, List.getElem?_eq_getElem (by omega)]; rfl) K
    have e0 : ∀ o : Out, ixG l.length (0 : Int) o = o := fun o => ixG_pos (by omega) (by show 0 < l.length; omega) o
    have hS0 := hs l[0] (List.getElem_mem _)
    rw [if_pos k2]
    simp only [e0, r0]
    rw [gd_pos (by simp)]
    simp only [itemC, List.drop_zero, List.take_succ_cons, List.take_zero, unC_cons, dS_str, dI_int, unN_nil]
    rw [gL_pos (by simp; omega)]
    refine ⟨l ++ [l[0]], at_ + 1 + 1, by simp, fun y hy => ?_, by omega, by omega, by rw [List.map_append]; rfl⟩
    rcases List.mem_append.1 hy with h | h
    · exact hs y h
    · rcases List.mem_singleton.1 h with rfl; exact hS0
  rw [if_neg k2, cnd_decide]
  by_cases k3 : x10 = 3
  · obtain ⟨v, a, b1, b2, g3⟩ := odd10_ok fu (n + 1) ls (at_ + 1 + 1) 1 4 (by omega) (by omega) (by omega) (by omega) (by omega)
    unfold sb at g3
    rw [if_pos k3, g3, skI_some]
    simp only [x1, Int.toNat_natCast, r1, ovr_kind]
    have hx' : ItS { l[p] with kind := v } := ⟨hpS.id, hpS.cust, hpS.name, hpS.parent, hpS.text⟩
    exact ⟨l.set p { l[p] with kind := v }, a, by simp, set_ItS hs hx' p, by omega, by omega, by rw [List.map_set]⟩
  rw [if_neg k3]
  obtain ⟨l', a, b1, b2, b3, b4, g⟩ := Items_L1 fu (n + 3) ls 4 0 fu l (at_ + 1 + 1) hl (by omega) hs (by omega) (by omega) (by omega) (by omega)
  exact ⟨l', a, by omega, b2, by omega, by omega, g⟩
theorem Items_ok (fu n : Nat) (hfu : 1000000 ≤ fu) (ls : List Int) (at_ : Int) (N : Nat) (hN : N ≤ 1000) (h0 : 0 ≤ at_) (h1 : at_ < 700000000000000000) :
    ∃ (l : List Item) (a : Int), l.length ≤ N + 1 ∧ (∀ x ∈ l, ItS x) ∧ 0 ≤ a ∧ a ≤ at_ + 123000 ∧ ev fu (n + 9) 8 [.ptr 0 0, .int .i64 (N : Nat)] (sb ls at_) = some ([.ref 1], [some (.box [.list (ls.map i1), .int .i64 a]), some (.row false 7 (l.map itemC) [])]) := by
  obtain ⟨l, a, p1, p2, p3, p4, g1⟩ := RightItems_ok fu n hfu ls at_ N hN h0 (by omega)
  unfold sb at g1 ⊢
  rw [chasemake_Stream_Items_eq, g1, skR_eq, List.length_map, cnd_decide]
  by_cases hl : (0 : Int) < (l.length : Int)
  · obtain ⟨b, g2⟩ := Flip_ok fu (n + 5) ls a 8 p3 (by omega)
    unfold sb at g2
    rw [if_pos hl, g2, skB_some]
    cases b
    · rw [chasemake_Stream_Items_J1_eq, cnd_false]
      exact ⟨l, _, by omega, p2, by omega, by omega, rfl⟩
    · obtain ⟨l', a', b1, b2, b3, b4, g3⟩ := Items_J1 fu (n + 3) hfu ls (a + 1) N hN l (by omega) (by omega) p2 (by omega) (by omega)
      exact ⟨l', a', by omega, b2, by omega, by omega, g3⟩
  · rw [if_neg hl, chasemake_Stream_Items_J1_eq, cnd_false]
    exact ⟨l, _, by omega, p2, by omega, by omega, rfl⟩
/-! ### The law -/
theorem ItemChecks_ok (fu n : Nat) (ls : List Int) (hfu : 1000000 ≤ fu) : ev fu (n + 30) 3 [.list (ls.map i1)] [] = some ([.bool true], []) := by
  obtain ⟨c, hc, g1⟩ := Range_ok fu (n + 26) ls 0 0 8 (by omega) (by omega) (by omega) (by omega) (by omega)
  obtain ⟨N, rfl⟩ : ∃ N : Nat, c = N := ⟨c.toNat, by omega⟩
  obtain ⟨l, a, p1, p2, p3, p4, g2⟩ := Items_ok fu (n + 20) hfu ls (0 + 1) N (by omega) (by omega) (by omega)
  obtain ⟨x, b, hx, q1, q2, g3⟩ := Item_ok fu (n + 24) hfu ls a ⟨#[105, 97]⟩ (by decide) p3 (by omega)
  have g4 := Sum_ok fu (n + 22) x hfu
  have g5 := ItemFault_ok fu (n + 24) x hfu
  have g6 := CheckItem_ok fu (n + 24) x hfu
  have g7 : itE x = 0 → _ := fun h => SumOf_ok fu (n + 27) x h hfu
  have g8 := Check_ok fu (n + 22) l hfu
  have g9 := ItemsFault_ok fu (n + 22) l hfu
  have g10 := taken_ok fu (n + 9) hfu
  unfold sb at g1 g2 g3
  rw [chaselaw2_ItemChecks_eq, g1, skI_some, g2, skR_eq, g3, skItem]
  unfold itemC at g4 g5 g6 g7
  rw [g4]
  simp only [callE_some', unXN_nil, unC_cons, dS_str, dI_int, unN_nil]
  rw [g5, rI_some, g6, rI_some]
  simp only [decide_true, Bool.not_true, cnd_false, g8, g9, g10, rI_some, rB_some, cnd_true]
  by_cases h : itE x = 0
  · rw [decide_eq_true h, cnd_true, g7 h, rS_some, if_pos h]
    simp only [decide_true, Bool.not_true, cnd_false]
  · rw [decide_eq_false h, cnd_false, if_neg h]
    simp only [decide_true, Bool.not_true, Bool.not_false, cnd_false, cnd_true]
theorem ItemChecks_spec (ls : List Int) : SpecB Tryz.prog 3 [ints ls] [] [.bool true] [] := law_spec (ItemChecks_ok 1000000 0 ls (Nat.le_refl _))
end Go.Pv
/- A law's call, with the world's shape and what is listed. -/
namespace Go
variable {H : Type} {enc : TypeId × Value → H}

theorem handed_and_shaped {a : Assume} {C : Checked} {os : Os} {f : FuncId} {fn : Func} {s : ChangeSpec} {conds : List PathCond} {apart fresh handsOn again : Bool} {X : World → Array Value → Prop}
    (hX : ∀ (w w' : World) (args : Array Value), w.heap = w'.heap → X w args → X w' args)
    (own : ownKnob C.prog.godebug = none) (started : os.Started) (noInit : C.prog.inits.idxOf? f = none) (hfn : C.prog.funcs[f]? = some fn)
    (witness : ∃ (w : World) (tape : Tape) (i : Input), w.os = os ∧ (w.forCall tape i).Shaped C.prog ∧ i.vars = [] ∧ Input.okWide C.prog (w.forCall tape i) .any w.heap.size f i ∧
      ((s.pre enc C.prog fn conds apart (w.forCall tape i).memory i.args ∧ X (w.forCall tape i).memory i.args) ∧ sizedMet enc C.prog fn (OpenSpec.ofChange s) apart (w.forCall tape i).memory i.args) ∧ a.holds C.prog (lone (Frame.enter C.prog f i.args .normal) [] (w.forCall tape i)))
    (contract : ∀ (W : World) (base : Nat) (args : Array Value) (ds gs : List (DataW H)) (before : List MemPlace),
      (∀ (j : Nat) t v, fn.params[j]? = some t → args[j]? = some v → Value.okWide C.prog W .any base t v) →
      DataW.Whole enc C.prog fn.params.toList s.vars apart W args.toList ds gs before →
      conds.all (PathCond.test C.prog ⟨fn.params.toList, ds, s.plain.varTypes C.prog, gs⟩) = true →
      (DataW.weightsEach C.prog (fn.params.toList ++ s.plain.varTypes C.prog) (ds ++ gs)).all (· ≤ reachBytes) = true → X W args → W.ShapedOpen C.prog →
      a.holds C.prog (lone (Frame.enter C.prog f args .normal) [] W) →
      Calls C.prog f args W fun e W' => ∃ v, e = .returned v ∧ s.post enc C.prog fn apart fresh handsOn again W args v W') :
    ReturnsInHanded a C os f .any (fun w args => (s.pre enc C.prog fn conds apart w args ∧ X w args) ∧ sizedMet enc C.prog fn (OpenSpec.ofChange s) apart w args) (s.post enc C.prog fn apart fresh handsOn again) := by
  refine returnsInHanded_of_calls own started noInit witness ?_
  intro w tape i _ hsh _ hok hpre hholds
  obtain ⟨_, _, _, fn', hfn', _, _, _, _, hval⟩ := hok
  have e : fn' = fn := Option.some.inj (hfn'.symm.trans hfn)
  subst e
  obtain ⟨⟨⟨ds, gs, before, hw, hc⟩, hx⟩, hz⟩ := hpre
  have hw' := DataW.Whole.of_heap (w' := w.forCall tape i) (by rfl) hw
  refine (contract (w.forCall tape i) w.heap.size i.args ds gs before hval hw' hc (hz.weights hw) (hX _ _ _ (by rfl) hx) hsh hholds).mono fun e W' ⟨v, he, hp⟩ => ?_
  subst he
  exact ChangeSpec.post_blind hp
end Go
