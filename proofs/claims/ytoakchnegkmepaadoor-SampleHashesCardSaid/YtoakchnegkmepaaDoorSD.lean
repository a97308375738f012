/- Keys as the reference tells them; the law SampleHashes. -/
import Derived.Test.YtoakchnegkmepaaDoorS8
set_option linter.unusedSimpArgs false
set_option linter.unusedVariables false
set_option maxRecDepth 100000
namespace Go.Pv
open Go Go.Proofs

theorem slS_pos {α : Type} {s : ByteArray} {l h : Int} (h1 : 0 ≤ l ∧ l ≤ h ∧ h ≤ (s.size : Int)) (K : ByteArray → Option α) : slS s l h K = K (s.extract l.toNat h.toNat) := if_pos h1

/-! ### Only bytes of a set -/
theorem dw_nil {β : Type} (p : β → Bool) : ∀ l : List β, l.dropWhile p = [] ↔ ∀ x ∈ l, p x = true
  | [] => by simp
  | a :: r => by
    rw [List.dropWhile_cons]
    by_cases h : p a = true
    · rw [if_pos h, dw_nil p r]
      exact ⟨fun q x hx => (List.mem_cons.1 hx).elim (fun e => e ▸ h) (q x), fun q x hx => q x (List.mem_cons_of_mem _ hx)⟩
    · rw [if_neg h]
      exact ⟨fun q => (by cases q), fun q => absurd (q a (List.mem_cons_self ..)) h⟩
theorem dw_head {β : Type} (p : β → Bool) : ∀ (l : List β) (a : β) (r : List β), l.dropWhile p = a :: r → p a = false
  | [], a, r, h => by cases h
  | b :: l, a, r, h => by
    rw [List.dropWhile_cons] at h
    by_cases hb : p b = true
    · rw [if_pos hb] at h; exact dw_head p l a r h
    · rw [if_neg hb] at h; cases h; exact Bool.eq_false_iff.2 hb
theorem trim_nil (l cs : List UInt8) : Go.Lib.trimS l cs = [] ↔ ∀ b ∈ l, cs.contains b = true := by
  unfold Go.Lib.trimS Go.Lib.trimLeftS Go.Lib.trimRightS
  rw [dw_nil]
  constructor
  · intro h
    have h2 : ∀ x ∈ l.reverse.dropWhile (cs.contains ·), cs.contains x = true := fun x hx => h x (List.mem_reverse.2 hx)
    have h3 : l.reverse.dropWhile (cs.contains ·) = [] := by
      cases hd : l.reverse.dropWhile (cs.contains ·) with
      | nil => rfl
      | cons a r =>
        have hn := dw_head _ _ _ _ hd
        rw [hd] at h2
        rw [h2 a (List.mem_cons_self ..)] at hn; cases hn
    rw [dw_nil] at h3
    intro b hb; exact h3 b (List.mem_reverse.2 hb)
  · intro h x hx
    have h3 : l.reverse.dropWhile (cs.contains ·) = [] := (dw_nil _ _).2 fun b hb => h b (List.mem_reverse.1 hb)
    rw [h3] at hx; simp at hx
def allIn (s c : ByteArray) : Bool := s.data.toList.all (c.data.toList.contains ·)
theorem Trim_ev (fu n : Nat) (s c : ByteArray) (h : s.size ≤ 9223372036854775807 ∧ c.size < 4294967281 ∧ c.data.toList.all (fun b => decide (b.toNat < 128)) = true) : ev fu (n + 1) 28 [.str s, .str c] [] = some ([(none, .str ⟨(Go.Lib.trimS s.data.toList c.data.toList).toArray⟩)], []) := by
  have e : ev fu (n + 1) 28 [.str s, .str c] [] = trimH [.str s, .str c] := rfl
  rw [e]; exact if_pos h
theorem only_ok (fu n : Nat) (s c : ByteArray) (h : s.size ≤ 9223372036854775807 ∧ c.size < 4294967281 ∧ c.data.toList.all (fun b => decide (b.toNat < 128)) = true) : ev fu (n + 2) 22 [.str s, .str c] [] = some ([(none, .bool (allIn s c))], []) := by
  rw [chaseref2_only_eq, Trim_ev fu n s c h, rS_some]
  have e : decide ((⟨(Go.Lib.trimS s.data.toList c.data.toList).toArray⟩ : ByteArray) = ⟨#[]⟩) = allIn s c := by
    have e1 : ((⟨(Go.Lib.trimS s.data.toList c.data.toList).toArray⟩ : ByteArray) = ⟨#[]⟩) ↔ Go.Lib.trimS s.data.toList c.data.toList = [] := by
      constructor
      · intro h; have := congrArg (fun b => b.data.toList) h; simpa using this
      · intro h; rw [h]
    unfold allIn
    by_cases hx : Go.Lib.trimS s.data.toList c.data.toList = []
    · rw [decide_eq_true (e1.2 hx)]
      exact (List.all_eq_true.2 ((trim_nil _ _).1 hx)).symm
    · rw [decide_eq_false (fun q => hx (e1.1 q))]
      symm
      rw [Bool.eq_false_iff]
      intro q; exact hx ((trim_nil _ _).2 (List.all_eq_true.1 q))
  rw [e]
  exact npO_0 (by simp)

/-! ### Keys -/
def smallsB : ByteArray := ⟨#[97, 98, 99, 100, 101, 102, 103, 104, 105, 106, 107, 108, 109, 110, 111, 112, 113, 114, 115, 116, 117, 118, 119, 120, 121, 122]⟩
def keyCs : ByteArray := ⟨#[97, 98, 99, 100, 101, 102, 103, 104, 105, 106, 107, 108, 109, 110, 111, 112, 113, 114, 115, 116, 117, 118, 119, 120, 121, 122, 48, 49, 50, 51, 52, 53, 54, 55, 56, 57, 45, 95]⟩
theorem small_mem (b : UInt8) : smallsB.data.toList.contains b = inB (b.toNat : Int) 97 122 := by
  have h : ∀ n : Fin 256, smallsB.data.toList.contains (UInt8.ofNat n.val) = inB (n.val : Int) 97 122 := by decide +kernel
  have h2 := h ⟨b.toNat, b.toNat_lt⟩
  simpa using h2
theorem key_mem (b : UInt8) : keyCs.data.toList.contains b = keyC (b.toNat : Int) := by
  have h : ∀ n : Fin 256, keyCs.data.toList.contains (UInt8.ofNat n.val) = keyC (n.val : Int) := by decide +kernel
  have h2 := h ⟨b.toNat, b.toNat_lt⟩
  simpa using h2
theorem bAt_el (s : ByteArray) {i : Nat} (h : i < s.data.toList.length) : bAt s i = ((s.data.toList[i]).toNat : Int) := by
  unfold bAt
  have h2 : i < s.data.size := by simpa using h
  rw [Array.getD_eq_getD_getElem?, Array.getElem?_eq_getElem h2]; simp
theorem keyFrom_all (s : ByteArray) : ∀ (m i : Nat), i + m = s.data.toList.length → keyFrom s i m = (s.data.toList.drop i).all (keyCs.data.toList.contains ·)
  | 0, i, h => by rw [List.drop_of_length_le (by omega)]; rfl
  | m + 1, i, h => by
    rw [List.drop_eq_getElem_cons (by omega), List.all_cons, keyFrom, keyFrom_all s m (i + 1) (by omega), key_mem, bAt_el s (by omega)]
theorem keyS_eq (s : ByteArray) : keyS s = (inB (s.size : Int) 1 40 && (inB (bAt s 0) 97 122 && allIn s keyCs)) := by
  unfold keyS allIn
  have hs : s.size = s.data.toList.length := by simp
  rw [hs, keyFrom_all s s.data.toList.length 0 (by omega), List.drop_zero]
theorem RKey_ok (fu n : Nat) (s : ByteArray) (hs : s.size ≤ 9223372036854775807) : ev fu (n + 3) 16 [.str s] [] = some ([(none, .bool (keyS s))], []) := by
  rw [chaseref2_Key_eq, in_ok, rB_some, keyS_eq]
  by_cases h : inB (s.size : Int) 1 40 = true
  · have hb : 1 ≤ (s.size : Int) := by simp [inB] at h; omega
    have hl : 0 < s.data.toList.length := by simp; omega
    have ha : allIn (s.extract 0 1) smallsB = inB (bAt s 0) 97 122 := by
      unfold allIn
      have e : (s.extract 0 1).data.toList = [s.data.toList[0]] := by
        have e1 : (s.extract 0 1).data.toList = (s.data.toList.drop 0).take 1 := by
          simp [ByteArray.extract, ByteArray.copySlice]
        rw [e1, List.drop_eq_getElem_cons hl]; rfl
      rw [e, List.all_cons, List.all_nil, Bool.and_true, small_mem, bAt_el s hl]
    have hz : (s.extract 0 1).size ≤ 9223372036854775807 := by rw [ByteArray.size_extract]; omega
    have o1 := only_ok fu n (s.extract 0 1) smallsB ⟨hz, by decide, by decide⟩
    have o2 := only_ok fu n s keyCs ⟨hs, by decide, by decide⟩
    rw [ha] at o1
    unfold smallsB at o1
    unfold keyCs at o2
    have e0 : ((0 : Nat) : Int).toNat = 0 := rfl
    have e1 : (1 : Int).toNat = 1 := rfl
    rw [h, cnd_true, slS_pos (by omega), e0, e1, o1, rB_some]
    cases hx : inB (bAt s 0) 97 122
    · rw [cnd_false]; exact npO_0 (by simp)
    · rw [cnd_true, o2, rB_some]; exact npO_0 (by simp)
  · rw [Bool.eq_false_iff.2 h, cnd_false]; exact npO_0 (by simp)
theorem seedFault_ok (fu n : Nat) (s : ByteArray) (hs : s.size ≤ 9223372036854775807) : ev fu (n + 4) 8 [.str s] [] = some ([(none, .int .i64 (if keyS s then 0 else 5))], []) := by
  rw [chaselaw2_seedFault_eq, RKey_ok fu n s hs, rB_some, cnd_not]
  cases keyS s <;> exact npO_0 (by simp)

/-! ### Strings of streams -/
theorem npO_sbS {m : ByteArray} {ls : List Int} {a : Int} : npO 1 (some ([(none, .str m)], [some [.sh (.list (ls.map i1)), .sh (.int .i64 a)]])) = some ([(none, .str m)], sb ls a) := npO_sb (by simp)
def sS (s : ByteArray) : List MV := [.str s]
@[simp] theorem npL_sS (s : ByteArray) : npL (sS s) = true := rfl
theorem some10_ok (fu n : Nat) (ls : List Int) (at_ : Int) (es : List (List MV)) (xs : List ByteArray) (he : es = xs.map sS) (h0 : 0 ≤ at_) (h1 : at_ < 4611686018427387904) (hx : 1 ≤ xs.length) (hx2 : xs.length < 1000000) :
    ∃ v, v ∈ xs ∧ ev fu (n + 3) 12 [.ptr 0 0, .list es] (sb ls at_) = some ([(none, .str v)], sb ls (at_ + 1)) := by
  subst he
  obtain ⟨v, hv, h⟩ := Next_ok fu n ls at_ xs.length h0 h1
  have hv2 := hv (by omega) (by omega)
  have hi : v.toNat < xs.length := by omega
  refine ⟨xs[v.toNat], List.getElem_mem hi, ?_⟩
  have he : (xs.map sS)[v.toNat]? = some [.str xs[v.toNat]] := map_get sS hi
  unfold sb at *
  rw [chasemake_Stream_some10_eq]
  simp only [List.length_map]
  rw [npG_pos (by simp), h]
  simp only [callE_some', rC_cons, dI_int, rN_nil, bX_cons, bC_cons, dL_list, bN_nil, rd_get hv2.1 he, List.length_cons, List.length_nil, cel_zero, dS_str]
  rw [gd_pos (by simp)]
  exact npO_sbS
theorem Seed_ok (fu n : Nat) (ls : List Int) (at_ : Int) (h0 : 0 ≤ at_) (h1 : at_ < 4611686018427387904) :
    ∃ v : ByteArray, v.size ≤ 10 ∧ ev fu (n + 4) 5 [.ptr 0 0] (sb ls at_) = some ([(none, .str v)], sb ls (at_ + 1)) := by
  obtain ⟨v, hv, h⟩ := some10_ok fu n ls at_ _ [⟨#[111, 110, 101]⟩, ⟨#[116, 119, 111]⟩, ⟨#[120, 45, 49]⟩, ⟨#[111, 110, 101]⟩, ⟨#[116, 119, 111]⟩, ⟨#[]⟩, ⟨#[65]⟩] rfl h0 h1 (by simp) (by simp)
  refine ⟨v, ?_, ?_⟩
  · simp only [List.mem_cons, List.not_mem_nil, or_false] at hv
    rcases hv with rfl | rfl | rfl | rfl | rfl | rfl | rfl <;> decide
  · unfold sb at *
    simp only [List.map_cons, List.map_nil, sS] at h
    rw [chasemake_Stream_Seed_eq, npG_pos (by simp), h]
    simp only [callE_some', rC_cons, dS_str, dI_int, rN_nil, bX_cons, bC_cons, dL_list, bN_nil]
    exact npO_sbS

/-! ### The law -/
theorem SampleHashes_J1 (fu n : Nat) (id seed : ByteArray) (l : List (List MV)) (at_ : Int) (h1 : id.size ≤ 100) (h2 : seed.size ≤ 100) (hfu : 1000000 ≤ fu) :
    chaselaw2_SampleHashes_J1 fu (n + 10) id seed l at_ = some ([(none, .bool true)], []) := by
  have a1 := Hash_ok fu (n + 6) id seed (by omega) (by omega) hfu
  have a2 := seedFault_ok fu (n + 6) id (by omega)
  have a3 := seedFault_ok fu (n + 6) seed (by omega)
  have a4 := wrongOr_ok fu (n + 9) [if keyS id then 0 else 5, if keyS seed then 0 else 5] hfu (by simp)
  have a5 := HashOf_ok fu (n + 8) id seed hfu (by omega) (by omega)
  have a6 := drawn_ok fu n hfu
  simp only [List.map_cons, List.map_nil, i1] at a4
  rw [chaselaw2_SampleHashes_J1_eq, a1, a2, a3]
  generalize fnz [if keyS id then 0 else 5, if keyS seed then 0 else 5] = e at *
  by_cases h0 : e = 0
  · subst h0
    simp only [if_true, callE_some', rC_cons, dI_int, rN_nil, rI_some, npG_pos, npL_cons, np_list, np_int, npLL_cons, npLL_nil, npL_nil, Bool.and_true, a4, cnd_not, cnd_decide, a5, a6, rB_some]
  · simp only [if_neg h0, callE_some', rC_cons, dI_int, rN_nil, rI_some, npG_pos, npL_cons, np_list, np_int, npLL_cons, npLL_nil, npL_nil, Bool.and_true, a4, cnd_not, cnd_decide, a6, rB_some, if_true]

theorem SampleHashes_ok (fu n : Nat) (ls : List Int) (hfu : 1000000 ≤ fu) :
    ev fu (n + 11) 3 [.list (ls.map i1)] [] = some ([(none, .bool true)], []) := by
  obtain ⟨v, hv, h1⟩ := Next_ok fu (n + 8) ls 0 6 (by omega) (by omega)
  have hv2 := hv (by omega) (by omega)
  obtain ⟨seed, hs, h2⟩ := Seed_ok fu (n + 6) ls (0 + 1) (by omega) (by omega)
  let tb : List ByteArray := [⟨#[97]⟩, ⟨#[105, 97]⟩, ⟨#[107, 49, 55]⟩, ⟨#[]⟩, ⟨#[65]⟩, ⟨#[108, 111, 110, 103, 45, 110, 97, 109, 101, 95, 119, 105, 116, 104, 45, 57]⟩]
  have hi : v.toNat < tb.length := by show v.toNat < 6; omega
  have he := map_get sS hi
  have hid : tb[v.toNat].size ≤ 100 := by
    have hall : ∀ x ∈ tb, x.size ≤ 100 := by
      intro x hx
      simp only [tb, List.mem_cons, List.not_mem_nil, or_false] at hx
      rcases hx with rfl | rfl | rfl | rfl | rfl | rfl <;> decide
    exact hall _ (List.getElem_mem hi)
  have hJ := SampleHashes_J1 fu n tb[v.toNat] seed (ls.map i1) (0 + 1 + 1) hid (by omega) hfu
  unfold sb at h1 h2
  have e : ([[.str (⟨#[97]⟩ : ByteArray)], [.str (⟨#[105, 97]⟩ : ByteArray)], [.str (⟨#[107, 49, 55]⟩ : ByteArray)], [.str (⟨#[]⟩ : ByteArray)], [.str (⟨#[65]⟩ : ByteArray)], [.str (⟨#[108, 111, 110, 103, 45, 110, 97, 109, 101, 95, 119, 105, 116, 104, 45, 57]⟩ : ByteArray)]] : List (List MV)) = tb.map sS := rfl
  have hl : (tb.map sS).length = 6 := rfl
  rw [chaselaw2_SampleHashes_eq, e]
  generalize tb[v.toNat] = id at *
  simp only [npG_pos, npL_cons, np_int, np_list, npLL_i1, npLL_cons, npLL_nil, npL_nil, Bool.and_true, h1, h2, hl, ixG_pos hv2.1 (show v.toNat < 6 by omega), rdN_get he, sS, cel_zero, dS_str, callE_some', rC_cons, dA_agg, unC_cons, unN_nil, dB_bool, rN_nil, bX_cons, bC_cons, dL_list, dI_int, bN_nil, eqM_self', hJ, eqO_self]
  exact npO_0 (by simp)
def ints (xs : List Int) : MV := .list (xs.map fun x => [.int .i64 x])
theorem SampleHashes_spec (ls : List Int) : Spec Tryd.prog 3 [ints ls] [(none, .bool true)] :=
  (ev_sound 1000000 11).plain _ [ints ls] _ _ (SampleHashes_ok 1000000 0 ls (Nat.le_refl _)) (by simp [ints, npL_cons, npLL_mapF])

end Go.Pv
