/- allocate and AllocateOf. -/
import Derived.Test.YtoakchnegkmepaaSG
set_option linter.unusedSimpArgs false
set_option linter.unusedVariables false
set_option maxRecDepth 100000
namespace Go.Pv
open Go Go.Proofs

def inc1 (o : List Int) (i : Int) : List Int := o.set i.toNat (o.getD i.toNat 0 + 1)
def incs (o l : List Int) : List Int := l.foldl inc1 o
theorem inc1_len (o : List Int) (i : Int) : (inc1 o i).length = o.length := by simp [inc1]
theorem map_set_i1 (o : List Int) (k : Nat) (d : Int) : (o.map i1).set k (i1 d) = (o.set k d).map i1 := by simp [List.map_set]
theorem inc1_le {o : List Int} {b : Int} (h : ∀ v ∈ o, 0 ≤ v ∧ v ≤ b) {i : Int} (hi : i.toNat < o.length) : ∀ v ∈ inc1 o i, 0 ≤ v ∧ v ≤ b + 1 := by
  intro v hv
  obtain ⟨j, hj⟩ := List.getElem?_of_mem hv
  unfold inc1 at hj
  rw [List.getElem?_set] at hj
  split at hj
  · rename_i hij
    first | (rw [if_pos (by first | exact hi | (rw [← hij]; exact hi))] at hj) | skip
    injection hj with hj
    have := h (o[i.toNat]) (List.getElem_mem hi)
    have e : o.getD i.toNat 0 = o[i.toNat] := by simp [List.getD, hi]
    rw [e] at hj; omega
  · have := h v (List.mem_of_getElem? hj); omega

theorem alloc_L3 (fu n : Nat) (l : List Int) (hl : l.length ≤ 100000) : ∀ (m i k1 : Nat) (o : List Int) (b : Int), i + m = l.length → m < k1 → (∀ z ∈ l, 0 ≤ z ∧ z < (o.length : Int)) → (∀ v ∈ o, 0 ≤ v ∧ v ≤ b) → b + m ≤ 1000000000 →
    sample_allocate_L3 fu n k1 (o.map i1) (l.map i1) (l.length : Nat) i = some ([.ref 0], [some (.row false 1 ((incs o (l.drop i)).map i1) [])])
  | m, i, 0, o, b, h, hk, hz, hb, hm => by omega
  | 0, i, k1 + 1, o, b, h, hk, hz, hb, hm => by
    rw [sample_allocate_L3_eq, cnd_decide, if_neg (by omega), List.drop_of_length_le (by omega)]; rfl
  | m + 1, i, k1 + 1, o, b, h, hk, hz, hb, hm => by
    have hx : l[i]? = some l[i] := List.getElem?_eq_getElem (by omega)
    have hzi := hz l[i] (List.getElem_mem _)
    have hlt : (l[i]).toNat < o.length := by omega
    have ho : o[(l[i]).toNat]? = some o[(l[i]).toNat] := List.getElem?_eq_getElem hlt
    have hbo := hb _ (List.getElem_mem hlt)
    have hlt' : (l[i]).toNat < (o.map i1).length := by simpa using hlt
    have ed : o.getD (l[i]).toNat 0 = o[(l[i]).toNat] := by simp [List.getD, hlt]
    rw [sample_allocate_L3_eq, cnd_decide, if_pos (by omega), rd_i1 hx, gd_pos (i1_len _)]
    simp only [i1, cel_zero, dI_int]
    rw [ixG_pos hzi.1 hlt', rdN_i1 ho]
    simp only [i1, cel_zero, dI_int]
    rw [ixG_pos hzi.1 hlt', rdN_i1 ho, w64 (by omega) (by omega), ovr_i1, map_set_i1, i64k (by omega), List.drop_eq_getElem_cons (by omega)]
    have := alloc_L3 fu n l hl m (i + 1) k1 (inc1 o l[i]) (b + 1) (by omega) (by omega) (fun z hz' => by rw [inc1_len]; exact hz z hz') (inc1_le hb hlt) (by omega)
    unfold inc1 at this
    rw [ed] at this
    rw [this]
    show _ = some ([MV.ref 0], [some (Ob.row false 1 ((incs (inc1 o l[i]) (l.drop (i + 1))).map i1) [])])
    unfold inc1
    rw [ed]

/-! ### The comparison -/
def rmd (many S : Int) (xs : List Int) (i : Int) : Int := Int.tmod (many * xs.getD i.toNat 0) S
def quo (many S x : Int) : Int := Int.tdiv (many * x) S
theorem cmp_ok (fu n : Nat) (many S : Int) (xs : List Int) (hm : 0 ≤ many ∧ many ≤ 2000) (hS : 0 < S ∧ S ≤ 1000000) (hx : ∀ x ∈ xs, 0 ≤ x ∧ x ≤ 2000) :
    CmpOk fu (n + 1) 122 [.cptr [.int .i64 many] 0, .cptr [.list (xs.map i1)] 0, .cptr [.int .i64 S] 0] (fun a b => rmd many S xs b - rmd many S xs a) (fun z => 0 ≤ z ∧ z < (xs.length : Int)) := by
  refine ⟨rfl, fun a b ha hb => ?_⟩
  have get : ∀ z : Int, 0 ≤ z ∧ z < (xs.length : Int) → xs[z.toNat]? = some (xs.getD z.toNat 0) := fun z hz => by
    have : z.toNat < xs.length := by omega
    simp [List.getD, this]
  have bnd : ∀ z : Int, 0 ≤ z ∧ z < (xs.length : Int) → 0 ≤ many * xs.getD z.toNat 0 ∧ many * xs.getD z.toNat 0 ≤ 4000000 := fun z hz => by
    have := hx _ (List.mem_of_getElem? (get z hz))
    refine ⟨Int.mul_nonneg hm.1 this.1, ?_⟩
    exact Int.le_trans (Int.mul_le_mul hm.2 this.2 this.1 (by omega)) (by omega)
  have rb : ∀ z : Int, 0 ≤ z ∧ z < (xs.length : Int) → 0 ≤ rmd many S xs z ∧ rmd many S xs z < S := fun z hz => ⟨Int.tmod_nonneg _ (bnd z hz).1, Int.tmod_lt_of_pos _ hS.1⟩
  have e : ([.int .i64 a, .int .i64 b] ++ [.cptr [.int .i64 many] 0, .cptr [.list (xs.map i1)] 0, .cptr [.int .i64 S] 0] : List MV) = [.int .i64 a, .int .i64 b, .cptr [.int .i64 many] 0, .cptr [.list (xs.map i1)] 0, .cptr [.int .i64 S] 0] := rfl
  have rda : ∀ (K : List MV → Out), rd (xs.map i1) a K = K (i1 (xs.getD a.toNat 0)) := fun K => rd_get ha.1 (by rw [List.getElem?_map, get a ha]; rfl) K
  have rdb : ∀ (K : List MV → Out), rd (xs.map i1) b K = K (i1 (xs.getD b.toNat 0)) := fun K => rd_get hb.1 (by rw [List.getElem?_map, get b hb]; rfl) K
  have wa : IntKind.i64.wrap (many * xs.getD a.toNat 0) = many * xs.getD a.toNat 0 := by have := bnd a ha; exact w64 (by omega) (by omega)
  have wb : IntKind.i64.wrap (many * xs.getD b.toNat 0) = many * xs.getD b.toNat 0 := by have := bnd b hb; exact w64 (by omega) (by omega)
  have hS0 : S ≠ 0 := by omega
  rw [e, sample_allocate_1_eq]
  simp only [cel_zero, dI_int, dL_list, eqM_self', rda, rdb, gd_pos (i1_len _), gd_pos hS0]
  simp only [i1, cel_zero, dI_int, eqM_self', wa, wb, gd_pos hS0]
  have h1 := rb a ha
  have h2 := rb b hb
  unfold rmd at h1 h2 ⊢
  rw [w64 (by omega) (by omega)]
end Go.Pv
