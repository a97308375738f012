/- The greatest remainder again and again is the stable sort by remainders. Plain Lean. -/
import Derived.Test.YtoakchnegkmepaaSF
set_option linter.unusedSimpArgs false
set_option linter.unusedVariables false
namespace Go.Pv

/-- a comes before b. -/
def bef (m : Int → Int) (a b : Int) : Prop := m b < m a ∨ (m a = m b ∧ a < b)
theorem bef_trans {m : Int → Int} {a b c : Int} (h : bef m a b) (k : bef m b c) : bef m a c := by
  unfold bef at *; omega

theorem insR_sorted {m : Int → Int} {f : Int → Int → Int} (hf : ∀ a b, f a b < 0 ↔ m b < m a) : ∀ (r : List Int) (x : Int), r.Pairwise (fun a b => bef m b a) → (∀ y ∈ r, y < x) → (insR f r x).Pairwise (fun a b => bef m b a)
  | [], x, _, _ => by simp [insR]
  | y :: r, x, hp, hx => by
    have hp' := List.pairwise_cons.1 hp
    unfold insR
    split
    · rename_i h
      have h := (hf x y).1 h
      refine List.pairwise_cons.2 ⟨fun z hz => ?_, insR_sorted hf r x hp'.2 (fun z hz => hx z (List.mem_cons_of_mem _ hz))⟩
      rcases insR_mem.1 hz with q | q
      · subst q; exact .inl h
      · exact hp'.1 z q
    · rename_i h
      have h : ¬ m y < m x := fun q => h ((hf x y).2 q)
      refine List.pairwise_cons.2 ⟨fun z hz => ?_, hp⟩
      have hy := hx y (by simp)
      rcases List.mem_cons.1 hz with q | q
      · subst q; unfold bef; omega
      · have h1 := hp'.1 z q
        have h2 := hx z hz
        unfold bef at *; omega

theorem srt_sorted {m : Int → Int} {f : Int → Int → Int} (hf : ∀ a b, f a b < 0 ↔ m b < m a) : ∀ (l r : List Int), r.Pairwise (fun a b => bef m b a) → (∀ y ∈ r, ∀ z ∈ l, y < z) → l.Pairwise (· < ·) → (srt f l r).Pairwise (fun a b => bef m b a)
  | [], r, h, _, _ => h
  | x :: l, r, h, h1, h2 => by
    have h2' := List.pairwise_cons.1 h2
    refine srt_sorted hf l (insR f r x) (insR_sorted hf r x h (fun y hy => h1 y hy x (by simp))) (fun y hy z hz => ?_) h2'.2
    rcases insR_mem.1 hy with q | q
    · rw [q]; exact h2'.1 z hz
    · exact h1 y q z (List.mem_cons_of_mem _ hz)
theorem srt_mem {f : Int → Int → Int} : ∀ {l r : List Int} {z : Int}, z ∈ srt f l r ↔ z ∈ l ∨ z ∈ r
  | [], r, z => by simp [srt]
  | x :: l, r, z => by
    have := srt_mem (f := f) (l := l) (r := insR f r x) (z := z)
    show z ∈ srt f l (insR f r x) ↔ _
    rw [this, insR_mem]
    simp only [List.mem_cons]
    constructor
    · rintro (h | h | h)
      · exact .inl (.inr h)
      · exact .inl (.inl h)
      · exact .inr h
    · rintro ((h | h) | h)
      · exact .inr (.inl h)
      · exact .inl h
      · exact .inr (.inr h)
theorem srt_len {f : Int → Int → Int} : ∀ (l r : List Int), (srt f l r).length = l.length + r.length
  | [], r => by simp [srt]
  | x :: l, r => by
    show (srt f l (insR f r x)).length = _
    rw [srt_len l, insR_len]; simp; omega

/-- The first place of the greatest. -/
theorem maxI_ge : ∀ (l : List Int) (v : Int), v ≤ maxI v l ∧ ∀ x ∈ l, x ≤ maxI v l
  | [], v => ⟨Int.le_refl _, by simp⟩
  | y :: l, v => by
    obtain ⟨h1, h2⟩ := maxI_ge l (mm2 true v y)
    have e : maxI v (y :: l) = maxI (mm2 true v y) l := rfl
    have hm : v ≤ mm2 true v y ∧ y ≤ mm2 true v y := by unfold mm2; simp only [if_true]; split <;> omega
    rw [e]
    refine ⟨by omega, fun x hx => ?_⟩
    rcases List.mem_cons.1 hx with q | q
    · rw [q]; omega
    · exact h2 x q
theorem maxI_mem : ∀ (l : List Int) (v : Int), maxI v l = v ∨ maxI v l ∈ l
  | [], v => .inl rfl
  | y :: l, v => by
    have e : maxI v (y :: l) = maxI (mm2 true v y) l := rfl
    rw [e]
    rcases maxI_mem l (mm2 true v y) with q | q
    · rw [q]
      have : mm2 true v y = v ∨ mm2 true v y = y := by unfold mm2; simp only [if_true]; split <;> simp
      rcases this with q | q
      · exact .inl q
      · exact .inr (by rw [q]; simp)
    · exact .inr (by simp [q])
theorem fstI_at {v : Int} : ∀ (l : List Int) (k j : Nat), l[j]? = some v → (∀ i, i < j → l[i]? ≠ some v) → fstI v l k = ((k + j : Nat) : Int)
  | [], k, j, h, _ => by simp at h
  | x :: l, k, 0, h, _ => by simp at h; simp [fstI, h]
  | x :: l, k, j + 1, h, h2 => by
    have hne : v ≠ x := fun e => h2 0 (by omega) (by simp [e])
    rw [fstI, if_neg hne, fstI_at l (k + 1) j (by simpa using h) (fun i hi q => h2 (i + 1) (by omega) (by simpa using q))]
    omega

/-- One step of taking the greatest: the next in the order. -/
theorem pick_next {m : Int → Int} (hm : ∀ a, 0 ≤ m a) {n : Nat} {x : Int} {L : List Int} (hL : (x :: L).Pairwise (bef m)) (hr : ∀ z ∈ x :: L, 0 ≤ z ∧ z < n) {r0 : Int} {rest : List Int} (hn : (r0 :: rest).length = n)
    (hrest : ∀ j : Nat, j < n → (r0 :: rest)[j]? = some (if (j : Int) ∈ x :: L then m j else -1)) : fstI (maxI r0 rest) (r0 :: rest) 0 = x := by
  have hp := List.pairwise_cons.1 hL
  obtain ⟨h0, h1⟩ := hr x (by simp)
  have hx : (r0 :: rest)[x.toNat]? = some (m x) := by
    rw [hrest x.toNat (by omega), if_pos (by rw [Int.toNat_of_nonneg h0]; simp), Int.toNat_of_nonneg h0]
  have hle : ∀ j : Nat, j < n → ∀ v, (r0 :: rest)[j]? = some v → v ≤ m x := by
    intro j hj v hv
    rw [hrest j hj] at hv
    injection hv with hv
    have := hm x
    split at hv
    · rename_i hjm
      rcases List.mem_cons.1 hjm with q | q
      · rw [← hv, q]; omega
      · have := hp.1 _ q
        unfold bef at this; omega
    · omega
  have hmax : maxI r0 rest = m x := by
    have h2 := maxI_ge rest r0
    have h3 : m x ≤ maxI r0 rest := by
      have := List.mem_of_getElem? hx
      rcases List.mem_cons.1 this with q | q
      · rw [q]; exact h2.1
      · exact h2.2 _ q
    have h4 : maxI r0 rest ≤ m x := by
      have : maxI r0 rest ∈ r0 :: rest := by
        rcases maxI_mem rest r0 with q | q
        · rw [q]; simp
        · simp [q]
      obtain ⟨j, hj⟩ := List.getElem?_of_mem this
      exact hle j (by rw [← hn]; exact (List.getElem?_eq_some_iff.1 hj).1) _ hj
    omega
  rw [hmax, fstI_at _ 0 x.toNat hx]
  · omega
  · intro i hi q
    rw [hrest i (by omega)] at q
    injection q with q
    split at q
    · rename_i him
      rcases List.mem_cons.1 him with e | e
      · omega
      · have := hp.1 _ e
        unfold bef at this; omega
    · have := hm x; omega
end Go.Pv
