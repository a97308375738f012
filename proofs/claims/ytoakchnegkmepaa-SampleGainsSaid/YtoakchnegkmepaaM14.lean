/- A library of this session: memory that is made. -/
import Derived.Test.YtoakchnegkmepaaM11
set_option linter.unusedVariables false
set_option linter.unusedSimpArgs false
namespace Go.Pv

def cellsM : MV → List MV
  | .agg cs => cs
  | m => [m]

theorem cellsM_ok {γ : List Nat} {ω : Own} {w : World} {m : MV} {v : Value} (h : Rep γ ω w m v) (hm : ∀ vs, m ≠ .tup vs) :
    ∃ us : List Value, v.cells = us.toArray ∧ us.length = (cellsM m).length ∧ (∀ u ∈ us, u.oneCell' = true) ∧ ∀ (i : Nat) (c : MV) (u : Value), (cellsM m)[i]? = some c → us[i]? = some u → Rep γ ω w c u := by
  have one : ∀ {u : Value} {m' : MV}, Rep γ ω w m' u → u.cells = #[u] → u.oneCell' = true → cellsM m' = [m'] → ∃ us : List Value, u.cells = us.toArray ∧ us.length = (cellsM m').length ∧ (∀ u ∈ us, u.oneCell' = true) ∧ ∀ (i : Nat) (c : MV) (u : Value), (cellsM m')[i]? = some c → us[i]? = some u → Rep γ ω w c u := by
    intro u m' hr h1 h2 h3
    refine ⟨[u], h1, by rw [h3]; rfl, by simpa using h2, fun i c x hc hx => ?_⟩
    rw [h3] at hc
    cases i with
    | zero => simp at hc hx; subst hc; subst hx; exact hr
    | succ i => simp at hc
  cases h with
  | agg cs vs hl hr h1 => exact ⟨vs, rfl, hl, h1, hr⟩
  | tup cs vs hl hr => exact absurd rfl (hm _)
  | bool b => exact one (.bool b) rfl rfl rfl
  | int k n => exact one (.int k n) rfl rfl rfl
  | str s => exact one (.str s) rfl rfl rfl
  | list es sz blk o cap us hcap hω hlt hsz hcell hrep => exact one (.list es sz blk o cap us hcap hω hlt hsz hcell hrep) rfl rfl rfl
  | list0 a cap => exact one (.list0 a cap) rfl rfl rfl
  | nil => exact one .nil rfl rfl rfl
  | fn f cs vs hl hr => exact one (.fn f cs vs hl hr) rfl rfl rfl
  | nilfn => exact one .nilfn rfl rfl rfl
  | ptr b off blk hb => exact one (.ptr b off blk hb) rfl rfl rfl
  | cptr cs off blk o us hω hlt hcell hrep => exact one (.cptr cs off blk o us hω hlt hcell hrep) rfl rfl rfl
  | nilptr => exact one .nilptr rfl rfl rfl
  | map m blk es clock hω hb hl hk hv hlt hbn hnd => exact one (.map m blk es clock hω hb hl hk hv hlt hbn hnd) rfl rfl rfl
  | map0 => exact one .map0 rfl rfl rfl
  | ifc t c v hc => exact one (.ifc t c v hc) rfl rfl rfl
  | nilifc => exact one .nilifc rfl rfl rfl

/-- A new block. -/
theorem alloc_chg (γ : List Nat) (ω : Own) (w : World) (hlt : ∀ b, w.heap.size ≤ b → ω b = none) (o : Obj) (x : Option Owner) :
    Chg (fun _ => False) γ ω w γ (fun b => if b = w.heap.size then x else ω b) (w.alloc o) ∧ (∀ b, (w.alloc o).heap.size ≤ b → (if b = w.heap.size then x else ω b) = none) := by
  refine ⟨⟨rfl, rfl, rfl, by simp, fun _ _ h => h, fun b hb h0 => ⟨Go.RowKit.Below.heap_alloc w o b hb, by rw [if_neg (by omega)]; exact h0⟩, fun b o' hb h0 _ => ⟨Go.RowKit.Below.heap_alloc w o b hb, by rw [if_neg (by omega)]; exact h0⟩⟩, fun b hb => ?_⟩
  simp at hb
  rw [if_neg (by omega)]
  exact hlt b (by omega)

/-- A row of a known make is what its maker holds. -/
theorem row_own {γ : List Nat} {ω : Own} {w : World} {o : Owner} {sz n : Nat} {es : List (List MV)} {xs : List Value} {e : TypeId} {g : Nat} (hw : w.heap[g]? = some (.cells xs.toArray e (0, 0))) (hn : es.length = n) (hm : n ≤ maxLen) (hω : ω g = some o) (hlt : g < w.heap.size)
    (hc : Cells γ ω w sz es xs) : OwnRep γ ω w o sz (.list es) (.slice (some ⟨g, 0, none⟩) n n) := by
  subst hn
  refine .list sz es _ e xs ⟨hc.len, .inr ⟨g, es.length, xs.toArray, rfl, Nat.zero_le _, hw, Nat.le_refl _, hm, by simp [hc.len], ?_⟩⟩ hc (fun b hb => ?_)
  · simp [← hc.len]
  · simp [Value.ownBlock] at hb; subst hb; exact ⟨hω, hlt⟩

section
variable {P : Program} {γ : List Nat} {ω : Own} {w : World} {nt : Nat} {st : St} {a : Act}

/-! #### make([]T, n) -/
def mkP (P : Program) (st : St) (d : Nat) (T : TypeId) (l c : Operand) (K : St → Prop) : Prop :=
  match kdOf P T with
  | .slice e => match tiOf P e with
    | some ti => match opv st l, opv st c with
      | some (.int k n), some (.int k' n') => n = n' ∧ 0 ≤ n ∧ n ≤ 1000000000 ∧ ti.bytes ≤ 100000 ∧ 0 < ti.size ∧ K (st.put d (.own ti.size (.list (List.replicate n.toNat ti.zero))))
      | _, _ => False
    | none => False
  | _ => False

theorem getD_bang (z : Array Value) (i : Nat) (hi : i < z.size) : z[i]! = z[i] := by simp [hi]

theorem made_cells {ti : TI} {T : TypeId} (hT : Ty P T ti) {z : Value} (hz : zerosOf z.cells.toList = some ti.zero) (hl : ti.zero.length = ti.size) (hp : 0 < ti.size) (n : Nat) :
    Cells γ ω w ti.size (List.replicate n ti.zero) (Go.madeCells z.cells (n * ti.size)).toList := by
  obtain ⟨h1, h2, h3⟩ := zerosOf_rep (γ := γ) (ω := ω) (w := w) hz
  have hzs : z.cells.size = ti.size := by rw [← Array.length_toList, h1, hl]
  have hget : ∀ j i, j < n → i < ti.size → (Go.madeCells z.cells (n * ti.size)).toList[j * ti.size + i]? = z.cells.toList[i]? := by
    intro j i hj hi
    have hlt : j * ti.size + i < n * ti.size := by
      have : (j + 1) * ti.size ≤ n * ti.size := Nat.mul_le_mul_right _ hj
      rw [Nat.add_mul, Nat.one_mul] at this; omega
    have e2 : (j * ti.size + i) % ti.size = i := by
      rw [Nat.add_comm, Nat.add_mul_mod_self_right, Nat.mod_eq_of_lt hi]
    simp only [Go.madeCells, Array.toList_map, Array.toList_range, List.getElem?_map, List.getElem?_range hlt, Option.map_some, hzs, e2]
    have : i < z.cells.size := by omega
    rw [getD_bang _ _ this]
    simp [this]
  refine ⟨by simp [Go.madeCells], ?_, ?_, ?_⟩
  · intro e he; rw [List.eq_of_mem_replicate he]; exact hl
  · intro u hu
    obtain ⟨q, hq⟩ := List.getElem?_of_mem hu
    have hql : q < n * ti.size := by
      have := (List.getElem?_eq_some_iff.1 hq).1
      simpa [Go.madeCells] using this
    have h4 := hget (q / ti.size) (q % ti.size) (Nat.div_lt_of_lt_mul (by rw [Nat.mul_comm]; exact hql)) (Nat.mod_lt _ hp)
    rw [Nat.div_add_mod' q ti.size, hq] at h4
    exact h2 u (List.mem_of_getElem? h4.symm)
  · intro j e hj i c hi
    have hjn : j < n := by have := (List.getElem?_eq_some_iff.1 hj).1; simpa using this
    have he : e = ti.zero := by
      have := List.mem_of_getElem? hj
      exact List.eq_of_mem_replicate this
    subst he
    have hin : i < ti.size := by rw [← hl]; exact (List.getElem?_eq_some_iff.1 hi).1
    have hzi : i < z.cells.toList.length := by rw [Array.length_toList, hzs]; exact hin
    refine ⟨z.cells.toList[i], by rw [hget j i hjn hin]; exact List.getElem?_eq_getElem hzi, h3 i c _ hi (List.getElem?_eq_getElem hzi)⟩

theorem mk_ok (h : Rel γ ω w nt st a) {d : Nat} (hd : d < nt) {T : TypeId} {l c : Operand} {K : St → Prop} (hx : mkP P st d T l c K) :
    ∃ v w', (Instr.makeSlice T (a.eval l) (a.eval c)).run P w = .ok v w' ∧ ∃ γ' ω' st', Chg NotOuter γ ω w γ' ω' w' ∧ Rel γ' ω' w' nt st' (a.put (some d) v) ∧ K st' := by
  unfold mkP at hx
  split at hx
  · rename_i e hk
    obtain ⟨d1, hd1, hkd1⟩ := und_of_kd hk (by simp)
    have := tk_slice hkd1; subst this
    split at hx
    · rename_i ti hti
      have hT := ty_of hti
      obtain ⟨i, z, hi, hisz, hib, hiz, hz1, hz2, hz3⟩ := hT.info
      split at hx
      · rename_i k n k' n' hl hc
        obtain ⟨rfl, h0, h1, hby, hp, hK⟩ := hx
        have e1 := (h.val hl).int
        have e2 := (h.val hc).int
        have hn : n = (n.toNat : Int) := by omega
        have hb2 : i.bytes * n.toNat ≤ 281474976710656 := by
          have : i.bytes * n.toNat ≤ 100000 * 1000000000 := Nat.mul_le_mul (by omega) (by omega)
          omega
        have hr := run_make (P := P) w T e i z hd1 hi hiz k k' n n h0 (Int.le_refl _) (by
          have : ((i.bytes * n.toNat : Nat) : Int) ≤ 281474976710656 := by omega
          rw [Int.natCast_mul] at this
          rw [← hn] at this; exact this) (by omega)
        obtain ⟨hcg, hlt'⟩ := alloc_chg γ ω w h.lt (.cells (madeCells z.cells (n.toNat * i.size)) e) (some (.slot d))
        have hR := h.grow hcg hlt'
        refine ⟨_, _, by rw [e1, e2]; exact hr, γ, _, _, hcg.mono (fun _ h => h.elim), hR.put hd (c := .own ti.size (.list (List.replicate n.toNat ti.zero))) ?_, hK⟩
        have hcells := made_cells (γ := γ) (ω := fun b => if b = w.heap.size then some (.slot d) else ω b) (w := w.alloc (.cells (madeCells z.cells (n.toNat * i.size)) e)) hT hz1 hz2 hp n.toNat
        rw [← hisz] at hcells
        show OwnRep γ _ _ (.slot d) ti.size _ _
        rw [← hisz]
        refine row_own (e := e) (by simpa using heap_alloc_new w _) (by simp) (by simp only [maxLen]; omega) (by simp) (by simp) hcells
      · exact hx.elim
    · exact hx.elim
  · exact hx.elim

/-! #### []T{..} -/
/-- The elements of a literal: each index in turn. -/
def litE : Nat → List (Nat × MV) → Option (List (List MV))
  | _, [] => some []
  | i, (j, m) :: r => if i = j then (litE (i + 1) r).map (cellsM m :: ·) else none

def bsP (P : Program) (st : St) (d : Nat) (T : TypeId) (len : Nat) (parts : List (Nat × Operand)) (K : St → Prop) : Prop :=
  match kdOf P T with
  | .slice e => match shvs (retOs st (parts.map (·.2))) (parts.map (·.2)) with
    | some ms => match litE 0 ((parts.map (·.1)).zip ms) with
      | some es => (szOf P e ≠ 0 ∧ es.length = len ∧ len * szOf P e ≤ 16777216) ∧ (∀ x ∈ es, x.length = szOf P e) ∧ (∀ m ∈ ms, ∀ vs, m ≠ .tup vs) ∧ K ((retOs st (parts.map (·.2))).put d (.own (szOf P e) (.list es)))
      | none => False
    | none => False
  | _ => False

theorem fill_lit (sz : Nat) : ∀ (parts : List (Nat × Value)) (i : Nat) (pre : List Value) (rest : List Value) (xss : List (List Value)), pre.length = i * sz → rest.length = parts.length * sz → parts.length = xss.length →
    (∀ (q : Nat) (p : Nat × Value) (xs : List Value), parts[q]? = some p → xss[q]? = some xs → p.1 = i + q ∧ p.2.cells = xs.toArray ∧ xs.length = sz) →
    Instr.fill (fun i => some (i * sz, sz)) (pre ++ rest).toArray parts = some (pre ++ xss.flatten).toArray
  | [], i, pre, rest, xss, h1, h2, h3, h4 => by
    have : xss = [] := List.eq_nil_of_length_eq_zero h3.symm
    subst this
    have : rest = [] := List.eq_nil_of_length_eq_zero (by simpa using h2)
    subst this
    simp [Instr.fill]
  | p :: ps, i, pre, rest, xss, h1, h2, h3, h4 => by
    match xss, h3 with
    | xs :: xss, h3 =>
      obtain ⟨g1, g2, g3⟩ := h4 0 p xs rfl rfl
      obtain ⟨pi, pv⟩ := p
      simp only [Nat.add_zero] at g1
      subst g1
      have hrl : rest.length = sz + ps.length * sz := by rw [h2]; simp [Nat.add_mul]; omega
      have hsize : pv.cells.size = sz := by rw [g2]; simpa using g3
      have hfold : pv.cells.zipIdx.foldl (fun cs (x : Value × Nat) => cs.setIfInBounds (pi * sz + x.2) x.1) (pre ++ rest).toArray = (pre ++ xs ++ rest.drop sz).toArray := by
        rw [g2]
        have key : ∀ (ys : List Value) (k : Nat) (pre' rest' : List Value), pre'.length = pi * sz + k → ys.length ≤ rest'.length →
            (ys.zipIdx k).foldl (fun cs (x : Value × Nat) => cs.setIfInBounds (pi * sz + x.2) x.1) (pre' ++ rest').toArray = (pre' ++ ys ++ rest'.drop ys.length).toArray := by
          intro ys
          induction ys with
          | nil => intro k pre' rest' _ _; simp
          | cons y ys ih =>
            intro k pre' rest' hp hr
            match rest', hr with
            | z :: rest', hr =>
              simp only [List.zipIdx_cons, List.foldl_cons]
              have e : (pre' ++ z :: rest').toArray.setIfInBounds (pi * sz + k) y = ((pre' ++ [y]) ++ rest').toArray := by
                rw [← hp]
                simp
              rw [e, ih (k + 1) (pre' ++ [y]) rest' (by simp [hp]; omega) (by simpa using hr)]
              simp
        have := key xs 0 pre rest (by rw [h1]; rfl) (by omega)
        rw [g3] at this
        simp only [Array.foldl_toList, ← Array.foldl_toList, Array.toList_zipIdx]
        exact this
      have hcond : ¬ (pv.cells.size ≠ sz || decide (pi * sz + pv.cells.size > (pre ++ rest).toArray.size)) = true := by
        simp [hsize]; omega
      simp only [Instr.fill]
      rw [if_neg (by simpa [hsize] using by omega)]
      rw [hfold]
      have ih := fill_lit sz ps (pi + 1) (pre ++ xs) (rest.drop sz) xss (by simp [h1, g3, Nat.add_mul]) (by simp [hrl]) (by simpa using h3) (fun q p' xs' hp hx => by
        obtain ⟨a1, a2, a3⟩ := h4 (q + 1) p' xs' (by simpa using hp) (by simpa using hx)
        exact ⟨by omega, a2, a3⟩)
      rw [ih]
      simp

theorem litE_ok : ∀ {i : Nat} {l : List (Nat × MV)} {es : List (List MV)}, litE i l = some es → es = l.map (fun x => cellsM x.2) ∧ ∀ (q : Nat) (x : Nat × MV), l[q]? = some x → x.1 = i + q
  | i, [], es, h => by simp [litE] at h; subst h; simp
  | i, (j, m) :: r, es, h => by
    unfold litE at h
    split at h
    · rename_i hij
      subst hij
      cases hr : litE (i + 1) r with
      | none => rw [hr] at h; simp at h
      | some es' =>
        rw [hr] at h; simp at h; subst h
        obtain ⟨h1, h2⟩ := litE_ok hr
        refine ⟨by simp [h1], fun q x hq => ?_⟩
        cases q with
        | zero => simp at hq; subst hq; rfl
        | succ q => have := h2 q x (by simpa using hq); omega
    · exact absurd h (by simp)

theorem zip_get {α β : Type} {l : List α} {m : List β} {i : Nat} {a : α} {b : β} (h1 : l[i]? = some a) (h2 : m[i]? = some b) : (l.zip m)[i]? = some (a, b) := by
  rw [List.getElem?_zip_eq_some]; exact ⟨h1, h2⟩

/-- The values of parts, cell by cell. -/
theorem parts_cells (h : Rel γ ω w nt st a) {xs : List Operand} {ms : List MV} (hm : shvs st xs = some ms) (ht : ∀ m ∈ ms, ∀ vs, m ≠ .tup vs) :
    ∃ xss : List (List Value), xss.length = ms.length ∧ ∀ (i : Nat) (m : MV) (x : Operand) (us : List Value), ms[i]? = some m → xs[i]? = some x → xss[i]? = some us →
      (a.eval x).cells = us.toArray ∧ us.length = (cellsM m).length ∧ (∀ u ∈ us, u.oneCell' = true) ∧ ∀ (j : Nat) (c : MV) (u : Value), (cellsM m)[j]? = some c → us[j]? = some u → Rep γ ω w c u := by
  obtain ⟨h1, h2⟩ := shvs_rep h hm
  refine ⟨xs.map fun x => (a.eval x).cells.toList, by simpa using h1, fun i m x us g1 g2 g3 => ?_⟩
  rw [List.getElem?_map, g2] at g3
  simp at g3
  have hr := h2 i m (a.eval x) g1 (by rw [List.getElem?_map, g2]; rfl)
  obtain ⟨us', c1, c2, c3, c4⟩ := cellsM_ok hr (ht m (List.mem_of_getElem? g1))
  have : us = us' := by rw [← g3, c1]
  subst this
  exact ⟨c1, c2, c3, c4⟩

theorem flat_cells {sz : Nat} {es : List (List MV)} {xss : List (List Value)} (hl : xss.length = es.length) (hw : ∀ e ∈ es, e.length = sz)
    (h : ∀ (i : Nat) (e : List MV) (us : List Value), es[i]? = some e → xss[i]? = some us → us.length = e.length ∧ (∀ u ∈ us, u.oneCell' = true) ∧ ∀ (j : Nat) (c : MV) (u : Value), e[j]? = some c → us[j]? = some u → Rep γ ω w c u) :
    Cells γ ω w sz es xss.flatten := by
  induction es generalizing xss with
  | nil =>
    have : xss = [] := List.eq_nil_of_length_eq_zero (by simpa using hl)
    subst this
    exact ⟨by simp, by simp, by simp, by simp⟩
  | cons e es ih =>
    match xss, hl with
    | us :: xss, hl =>
      have h0 := h 0 e us rfl rfl
      have hz : e.length = sz := hw e (by simp)
      have ih' := ih (xss := xss) (by simpa using hl) (fun e he => hw e (by simp [he])) (fun i e us g1 g2 => h (i + 1) e us (by simpa using g1) (by simpa using g2))
      have one : Cells γ ω w sz [e] us := by
        refine ⟨by simp [h0.1, hz], by simpa using hz, h0.2.1, fun j e' hj i c hi => ?_⟩
        cases j with
        | zero =>
          simp at hj; subst hj
          have hi' : i < us.length := by rw [h0.1]; exact (List.getElem?_eq_some_iff.1 hi).1
          exact ⟨us[i], by simp [hi'], h0.2.2 i c _ hi (List.getElem?_eq_getElem hi')⟩
        | succ j => simp at hj
      have := cells_append one ih'
      simpa using this

theorem bs_ok (h : Rel γ ω w nt st a) {d : Nat} (hd : d < nt) {T : TypeId} {len : Nat} {parts : Array (Nat × Operand)} {K : St → Prop} (hx : bsP P st d T len parts.toList K) :
    ∃ v w', (Instr.buildSlice T len (parts.map fun (i, x) => (i, a.eval x))).run P w = .ok v w' ∧ ∃ γ' ω' st', Chg NotOuter γ ω w γ' ω' w' ∧ Rel γ' ω' w' nt st' (a.put (some d) v) ∧ K st' := by
  unfold bsP at hx
  split at hx
  · rename_i e hk
    obtain ⟨d1, hd1, hkd1⟩ := und_of_kd hk (by simp)
    have := tk_slice hkd1; subst this
    split at hx
    · rename_i ms hms
      split at hx
      · rename_i es hes
        obtain ⟨⟨hsz, hlen, hle⟩, hw, htup, hK⟩ := hx
        obtain ⟨ω1, hc1, hR1⟩ := h.retOs (parts.toList.map (·.2))
        obtain ⟨xss, hxl, hxs⟩ := parts_cells hR1 hms htup
        obtain ⟨hes1, hes2⟩ := litE_ok hes
        obtain ⟨hml, _⟩ := shvs_rep hR1 hms
        have hpl : parts.toList.length = ms.length := by simpa using hml
        have hzl : ((parts.toList.map (·.1)).zip ms).length = ms.length := by simp [hpl]
        have hel : es.length = ms.length := by rw [hes1, List.length_map, hzl]
        have heg : ∀ (i : Nat) (m : MV), ms[i]? = some m → es[i]? = some (cellsM m) := by
          intro i m hm
          have hi : i < parts.toList.length := by rw [hpl]; exact (List.getElem?_eq_some_iff.1 hm).1
          have : ((parts.toList.map (·.1)).zip ms)[i]? = some ((parts.toList[i]).1, m) := zip_get (by rw [List.getElem?_map, List.getElem?_eq_getElem hi]; rfl) hm
          rw [hes1, List.getElem?_map, this]; rfl
        obtain ⟨ti, hti, htsz⟩ := szOf_ne (P := P) (T := e) hsz
        have hT := ty_of hti
        have hlt24 : ¬ (len * ti.size > 2 ^ 24) := by rw [htsz]; omega
        have hfill : ∀ zero : Array Value, Instr.fill (fun i => some (i * ti.size, ti.size)) ((Array.range (len * ti.size)).map fun q => zero[q % zero.size]!) (parts.map fun (i, x) => (i, a.eval x)).toList = some xss.flatten.toArray := by
          intro zero
          have := fill_lit ti.size (parts.map fun (i, x) => (i, a.eval x)).toList 0 [] ((List.range (len * ti.size)).map fun q => zero[q % zero.size]!) xss (by simp) (by simp [← hlen, hel, ← hpl]) (by simp [hxl, ← hpl]) (fun q p xs hp hx => by
            simp only [Array.toList_map, List.getElem?_map] at hp
            cases hq : parts.toList[q]? with
            | none => rw [hq] at hp; simp at hp
            | some y =>
              rw [hq] at hp; simp at hp; subst hp
              have hql := (List.getElem?_eq_some_iff.1 hx).1
              have hm : ms[q]? = some ms[q] := List.getElem?_eq_getElem (by omega)
              obtain ⟨c1, c2, c3, c4⟩ := hxs q ms[q] y.2 xs hm (by rw [List.getElem?_map, hq]; rfl) hx
              refine ⟨?_, c1, ?_⟩
              · have hz : ((parts.toList.map (·.1)).zip ms)[q]? = some (y.1, ms[q]) := zip_get (by rw [List.getElem?_map, hq]; rfl) hm
                have := hes2 q _ hz
                simpa using this
              · rw [c2, htsz]; exact hw _ (List.mem_of_getElem? (heg q _ hm)))
          have e : (Array.range (len * ti.size)).map (fun q => zero[q % zero.size]!) = ((List.range (len * ti.size)).map fun q => zero[q % zero.size]!).toArray := Array.ext' (by simp)
          rw [e]
          simpa using this
        have e4 : (parts.map fun (i, x) => (i, a.eval x)).toList = parts.toList.map fun x => (x.1, a.eval x.2) := by simp
        have hrun : (Instr.buildSlice T len (parts.map fun (i, x) => (i, a.eval x))).run P w = .ok (.slice (some ⟨w.heap.size, 0, none⟩) len len) (w.alloc (.cells xss.flatten.toArray e)) := by
          by_cases h0 : len * ti.size = 0
          · have hf := hfill #[]
            have hl0 : len = 0 := by
              rcases Nat.mul_eq_zero.1 h0 with h1 | h1
              · exact h1
              · exact absurd h1 (by omega)
            subst hl0
            simp only [Nat.zero_mul] at hf
            rw [e4] at hf
            unfold Instr.buildSlice
            simp only [Sem.run_bind, run_underlying hd1, Result.andThen_ok, run_sizeT hT]
            simp only [Array.range_zero', List.map_toArray, List.map_nil] at hf
            simp [hf, newRow, Array.range_zero']
          · obtain ⟨z, hz, _⟩ := run_zeroT (P := P) (w := w) hT
            have hf := hfill z.cells
            rw [e4] at hf
            unfold Instr.buildSlice
            simp only [Sem.run_bind, run_underlying hd1, Result.andThen_ok, run_sizeT hT]
            have h24 : ¬ (16777216 < len * ti.size) := by omega
            simp [h0, hz, hf, h24, newRow]
        obtain ⟨hcg, hlt'⟩ := alloc_chg γ ω1 w hR1.lt (.cells xss.flatten.toArray e) (some (.slot d))
        have hR := hR1.grow hcg hlt'
        refine ⟨_, _, hrun, γ, _, _, hc1.trans (hcg.mono (fun _ h => h.elim)), hR.put hd (c := .own (szOf P e) (.list es)) ?_, hK⟩
        have hcells : Cells γ ω1 w ti.size es xss.flatten := by
          refine flat_cells (by rw [hxl, hel]) (fun x hx => by rw [htsz]; exact hw x hx) (fun i x us g1 g2 => ?_)
          have hi : i < ms.length := by rw [← hel]; exact (List.getElem?_eq_some_iff.1 g1).1
          have hm : ms[i]? = some ms[i] := List.getElem?_eq_getElem hi
          have hx : x = cellsM ms[i] := by rw [heg i _ hm] at g1; injection g1 with g1; exact g1.symm
          subst hx
          have hi2 : i < parts.toList.length := by omega
          obtain ⟨c1, c2, c3, c4⟩ := hxs i ms[i] (parts.toList[i]).2 us hm (by rw [List.getElem?_map, List.getElem?_eq_getElem hi2]; rfl) g2
          exact ⟨c2, c3, c4⟩
        show OwnRep γ _ _ (.slot d) (szOf P e) _ _
        rw [← htsz]
        refine row_own (e := e) (heap_alloc_new w _) hlen ?_ (by simp) (by simp) (hcells.chg hcg)
        have : len ≤ len * ti.size := Nat.le_mul_of_pos_right _ (by omega)
        simp only [maxLen]; rw [htsz] at this; omega
      · exact hx.elim
    · exact hx.elim
  · exact hx.elim

/-! #### T{..} -/
def fillS (P : Program) (T : TypeId) : List (Nat × MV) → List MV → Option (List MV)
  | [], cs => some cs
  | (i, m) :: r, cs => match fieldOf P T i with
    | some (o, fT) => if (cellsM m).length = szOf P fT ∧ o + (cellsM m).length ≤ cs.length then fillS P T r (cs.take o ++ cellsM m ++ cs.drop (o + (cellsM m).length)) else none
    | none => none

def tysOk (P : Program) (T : TypeId) : Bool :=
  match kdOf P T with
  | .strct fs => fs.all fun f => (tiOf P f.2).isSome
  | _ => false

def bldP (P : Program) (st : St) (dst : Option Tmp) (T : TypeId) (parts : List (Nat × Operand)) (K : St → Prop) : Prop :=
  match tiOf P T with
  | some ti => match shvs (retOs st (parts.map (·.2))) (parts.map (·.2)) with
    | some ms => match fillS P T ((parts.map (·.1)).zip ms) ti.zero with
      | some cs => (∀ m ∈ ms, (∀ vs, m ≠ .tup vs) ∧ (cellsM m).length ≠ 0) ∧ tysOk P T = true ∧ K (putO (retOs st (parts.map (·.2))) dst (.sh (.agg cs)))
      | none => False
    | none => False
  | none => False

end
end Go.Pv
