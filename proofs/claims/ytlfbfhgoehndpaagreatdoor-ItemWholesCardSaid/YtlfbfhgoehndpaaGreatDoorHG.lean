/- The library of this work, H texts, part G: rows: append, make, literals. -/
import Derived.Test.YtlfbfhgoehndpaaGreatDoorHF
set_option linter.unusedVariables false
set_option linter.unusedSimpArgs false
namespace Go.Pv

/-- The cells of a row, each as R says. -/
structure CellsP (R : Nat → Nat → MV → Value → Prop) (sz : Nat) (es : List (List MV)) (xs : List Value) : Prop where
  len : xs.length = es.length * sz
  wid : ∀ e ∈ es, e.length = sz
  one : ∀ u ∈ xs, u.oneCell' = true
  cell : ∀ (j : Nat) (e : List MV), es[j]? = some e → ∀ (i : Nat) (c : MV), e[i]? = some c → ∃ u, xs[j * sz + i]? = some u ∧ R j i c u

/-- A shared cell. -/
abbrev FlatR (γ : List Value) (ω : Own) (w : World) : Nat → Nat → MV → Value → Prop := fun _ _ c u => np c = true ∧ Rep γ ω w c u
/-- A cell of an object. -/
def CR (γ : List Value) (ω : Own) (w : World) (N : List (Nat × Nat) → Owner) (foc : List (Nat × Nat × Nat)) (dp : Bool) : Nat → Nat → MV → Value → Prop := fun j i c u => match lkF foc j i with
  | some k => γ[k]? = some u
  | none => (dp = false → np c = true) ∧ CellT γ ω w (fun p => N ((j, i) :: p)) c u

theorem RowR.cellsP {γ : List Value} {ω : Own} {w : World} {N : List (Nat × Nat) → Owner} {foc : List (Nat × Nat × Nat)} {dp : Bool} {sz : Nat} {es : List (List MV)} {v : Value} {e : TypeId} {xs : List Value} (h : RowR γ ω w N foc dp sz es v e xs) : CellsP (CR γ ω w N foc dp) sz es xs :=
  ⟨h.len, h.wid, h.one, fun j y hj i c hi => h.cell j y i c hj hi⟩
theorem RowR.of {γ : List Value} {ω : Own} {w : World} {N : List (Nat × Nat) → Owner} {foc : List (Nat × Nat × Nat)} {dp : Bool} {sz : Nat} {es : List (List MV)} {v : Value} {e : TypeId} {xs : List Value} (ho : w.ownsRow 0 e sz v es.length xs) (hc : CellsP (CR γ ω w N foc dp) sz es xs)
    (hb : ∀ b, v.ownBlock = some b → ω b = some (N []) ∧ b < w.heap.size) : RowR γ ω w N foc dp sz es v e xs := ⟨ho, hc.len, hc.wid, hc.one, fun j y i c hj hi => hc.cell j y hj i c hi, hb⟩

theorem CellsP.mono {R R' : Nat → Nat → MV → Value → Prop} {sz : Nat} {es : List (List MV)} {xs : List Value} (h : CellsP R sz es xs) (hR : ∀ j i c u, j < es.length → R j i c u → R' j i c u) : CellsP R' sz es xs :=
  ⟨h.len, h.wid, h.one, fun j e hj i c hi => by obtain ⟨u, h1, h2⟩ := h.cell j e hj i c hi; exact ⟨u, h1, hR _ _ _ _ (List.getElem?_eq_some_iff.1 hj).1 h2⟩⟩

theorem CellsP.append {R R' : Nat → Nat → MV → Value → Prop} {sz : Nat} {es fs : List (List MV)} {xs ys : List Value} (h : CellsP R sz es xs) (k : CellsP R' sz fs ys) : CellsP (fun j i c u => if j < es.length then R j i c u else R' (j - es.length) i c u) sz (es ++ fs) (xs ++ ys) := by
  refine ⟨by simp [h.len, k.len, Nat.add_mul], ?_, ?_, ?_⟩
  · intro e he
    rcases List.mem_append.1 he with he | he
    · exact h.wid e he
    · exact k.wid e he
  · intro u hu
    rcases List.mem_append.1 hu with hu | hu
    · exact h.one u hu
    · exact k.one u hu
  · intro j e hj i c hi
    rcases Nat.lt_or_ge j es.length with hl | hl
    · rw [List.getElem?_append_left hl] at hj
      obtain ⟨u, hu, hr⟩ := h.cell j e hj i c hi
      exact ⟨u, by rw [List.getElem?_append_left (List.getElem?_eq_some_iff.1 hu).1]; exact hu, by rw [if_pos hl]; exact hr⟩
    · rw [List.getElem?_append_right hl] at hj
      obtain ⟨u, hu, hr⟩ := k.cell (j - es.length) e hj i c hi
      refine ⟨u, ?_, by rw [if_neg (by omega)]; exact hr⟩
      rw [List.getElem?_append_right (by rw [h.len]; have := Nat.mul_le_mul_right sz hl; omega)]
      rw [show j * sz + i - xs.length = (j - es.length) * sz + i from by
        rw [h.len, Nat.sub_mul]; have := Nat.mul_le_mul_right sz hl; omega]
      exact hu

theorem CellsP.nil (R : Nat → Nat → MV → Value → Prop) (sz : Nat) : CellsP R sz [] [] := ⟨by simp, by simp, by simp, by simp⟩

theorem flat_get {sz : Nat} (hsz : 0 < sz) (us : Nat → Nat → Value) (n j i : Nat) (hj : j < n) (hi : i < sz) : ((List.range (n * sz)).map fun q => us (q / sz) (q % sz))[j * sz + i]? = some (us j i) := by
  have hlt : j * sz + i < n * sz := by
    have : (j + 1) * sz ≤ n * sz := Nat.mul_le_mul_right _ hj
    rw [Nat.add_mul, Nat.one_mul] at this; omega
  rw [List.getElem?_map, List.getElem?_range hlt]
  simp only [Option.map_some]
  have e1 : (j * sz + i) / sz = j := by
    rw [Nat.add_comm, Nat.add_mul_div_right _ _ hsz, Nat.div_eq_of_lt hi, Nat.zero_add]
  have e2 : (j * sz + i) % sz = i := by
    rw [Nat.add_comm, Nat.add_mul_mod_self_right, Nat.mod_eq_of_lt hi]
  rw [e1, e2]

theorem val_cells {γ : List Value} {ω : Own} {w : World} {ys : List (List MV)} {u : Value} (h : Val γ ω w (.list ys) u) {sz : Nat} (hsz : 0 < sz) (hy : ∀ y ∈ ys, y.length = sz) :
    ∃ A c news, u = .slice A ys.length c ∧ CellsP (FlatR γ ω w) sz ys news ∧ (ys ≠ [] → ∃ b o, A = some ⟨b, o, none⟩ ∧ ∀ (j : Nat) (x : Value), news[j]? = some x → w.cell? ⟨b, o + j, none⟩ = some x) := by
  by_cases hnil : ys = []
  · subst hnil
    obtain ⟨A, cap, rfl⟩ := h.list
    exact ⟨A, cap, [], rfl, .nil _ _, fun h => absurd rfl h⟩
  · -- the cells, one by one
    have key : ∀ (b o cap : Nat) (us : Nat → Nat → Value), (∀ (j : Nat) (e : List MV), ys[j]? = some e → ∀ (i : Nat) (c : MV), e[i]? = some c → w.cell? ⟨b, o + (j * sz + i), none⟩ = some (us j i) ∧ (us j i).oneCell' = true ∧ np c = true ∧ Rep γ ω w c (us j i)) →
        u = .slice (some ⟨b, o, none⟩) ys.length cap → ∃ A c news, u = .slice A ys.length c ∧ CellsP (FlatR γ ω w) sz ys news ∧ (ys ≠ [] → ∃ b o, A = some ⟨b, o, none⟩ ∧ ∀ (j : Nat) (x : Value), news[j]? = some x → w.cell? ⟨b, o + j, none⟩ = some x) := by
      intro b o cap us hus hu
      have hall : ∀ q, q < ys.length * sz → ∃ (e : List MV) (c : MV), ys[q / sz]? = some e ∧ e[q % sz]? = some c := by
        intro q hq
        have h1 : q / sz < ys.length := Nat.div_lt_of_lt_mul (by rw [Nat.mul_comm]; exact hq)
        refine ⟨ys[q / sz], ?_⟩
        have h2 : q % sz < (ys[q / sz]).length := by rw [hy _ (List.getElem_mem h1)]; exact Nat.mod_lt _ hsz
        exact ⟨(ys[q / sz])[q % sz], List.getElem?_eq_getElem h1, List.getElem?_eq_getElem h2⟩
      refine ⟨_, cap, (List.range (ys.length * sz)).map fun q => us (q / sz) (q % sz), hu, ⟨by simp, hy, ?_, ?_⟩, fun _ => ⟨b, o, rfl, ?_⟩⟩
      · intro v hv
        simp only [List.mem_map, List.mem_range] at hv
        obtain ⟨q, hq, rfl⟩ := hv
        obtain ⟨e, c, h1, h2⟩ := hall q hq
        exact (hus _ e h1 _ c h2).2.1
      · intro j e hj i c hi
        have hjl := (List.getElem?_eq_some_iff.1 hj).1
        have hil : i < sz := by rw [← hy e (List.mem_of_getElem? hj)]; exact (List.getElem?_eq_some_iff.1 hi).1
        exact ⟨us j i, flat_get hsz us _ j i hjl hil, (hus j e hj i c hi).2.2⟩
      · intro q x hq
        obtain ⟨hq1, hq2⟩ := range_map hq
        subst hq2
        obtain ⟨e, c, h1, h2⟩ := hall q hq1
        have := (hus _ e h1 _ c h2).1
        rw [Nat.div_add_mod' q sz] at this
        exact this
    have sz0 : ∀ {s : Nat}, (∀ y ∈ ys, y.length = s) → s = sz := by
      intro s hs
      cases ys with
      | nil => exact absurd rfl hnil
      | cons y r => rw [← hs y (by simp), hy y (by simp)]
    rcases h with h | ⟨k, s, es', e, xs, h, hr⟩ | ⟨k, mm, blk, es, clock, h, _⟩
    · cases h with
      | list _ s0 blk o cap us hcap hω hlt hsz0 hn hcell hrep =>
        have e0 := sz0 hsz0
        subst e0
        exact key blk o cap us (fun j e hj i c hi => ⟨(hcell j e hj i c hi).1, (hcell j e hj i c hi).2, npL_get (hn e (List.mem_of_getElem? hj)) i c hi, hrep j e hj i c hi⟩) rfl
      | list0 => exact absurd rfl hnil
    · injection h with h; subst h
      have e0 := sz0 hr.wid
      subst e0
      obtain ⟨blk, cap, hvb, hve⟩ := hr.hasBlk (List.length_pos_iff.2 hnil)
      obtain ⟨cap', _, _, _, _, h5⟩ := hr.cells hvb
      refine key blk 0 cap (fun j i => (xs[j * s + i]?).getD undef) (fun j y hj i c hi => ?_) hve
      obtain ⟨u', g1, g2, g3⟩ := hr.flat hj hi
      rw [g1, Nat.zero_add]
      exact ⟨(h5 j i u' g1).1, (h5 j i u' g1).2, g2, g3⟩
    · exact absurd h (by simp)

/-! ### append -/
def bytesT (P : Program) (T : TypeId) : Nat := match tiOf P T with | some ti => ti.bytes | none => 0

theorem zerosOf_len : ∀ {vs : List Value} {l : List MV}, zerosOf vs = some l → vs.length = l.length
  | [], l, h => by simp [zerosOf] at h; subst h; rfl
  | v :: r, l, h => by
    unfold zerosOf at h
    split at h
    · rename_i m l' hm hl; injection h with h; subst h; simp [zerosOf_len hl]
    · exact absurd h (by simp)

/-- The row of a string's bytes. -/
def byteRow (s : ByteArray) : List (List MV) := s.data.toList.map fun b => [.int .u8 (b.toNat : Int)]

theorem byteRow_len (s : ByteArray) : (byteRow s).length = s.size := by simp [byteRow]

theorem byteRow_get (s : ByteArray) (i : Nat) : (byteRow s)[i]? = (s.data.toList[i]?).map fun b => [.int .u8 (b.toNat : Int)] := by simp [byteRow]

/-- What is appended, as it is read: a slice's cells or a string's bytes. -/
structure AppX (P : Program) (w : World) (T' : TypeId) (sz m : Nat) (vx : Value) (news : List Value) : Prop where
  und : (∃ e2, P.underlying T' = some (.slice e2)) ∨ P.underlying T' = some .string
  len : ∀ w0 : World, (Builtin.lenOf vx).run P w0 = .ok m w0
  cells : ∀ w0 : World, w0.heap = w.heap → (Builtin.firstCells sz m vx).run P w0 = .ok news.toArray w0

theorem AppX.slice {P : Program} {w : World} {T' e2 : TypeId} {sz m cc : Nat} {A : Option Addr} {news : List Value} (hd2 : P.underlying T' = some (.slice e2)) (hnl : news.length = m * sz)
    (hA : m ≠ 0 → ∃ b o, A = some ⟨b, o, none⟩ ∧ ∀ (j : Nat) (x : Value), news[j]? = some x → w.cell? ⟨b, o + j, none⟩ = some x) : AppX P w T' sz m (.slice A m cc) news := by
  refine ⟨.inl ⟨e2, hd2⟩, fun w0 => by simp [Builtin.lenOf], fun w0 hw => ?_⟩
  by_cases hny : m = 0
  · subst hny
    have : news = [] := List.eq_nil_of_length_eq_zero (by simpa using hnl)
    subst this
    cases A <;> simp [Builtin.firstCells, loadCells, loadCellsFrom]
  · obtain ⟨b, o, rfl, hcell⟩ := hA hny
    refine run_firstCells_some (P := P) w0 sz m ⟨b, o, none⟩ m cc news hnl (fun j v hj => ?_)
    rw [Addr.add_lit, cell_of_heap (w := w) (by rw [hw])]
    exact hcell j v hj

theorem AppX.str {P : Program} {w : World} {T' : TypeId} {sz : Nat} (s : ByteArray) (hd2 : P.underlying T' = some .string) : AppX P w T' sz s.size (.string s) (Go.Lib.strCells s) :=
  ⟨.inr hd2, fun w0 => by simp [Builtin.lenOf], fun w0 _ => Go.Lib.run_firstCells_string w0 sz s⟩

theorem run_appX {P : Program} {w : World} (T T' ty e e' : TypeId) (i : TypeInfo) (z : Value) (ht : P.underlying T = some (.slice e)) (hi : P.info? e = some i) (hz : i.zero = some z)
    (hzs : z.cells.size = i.size) (v : Value) (n : Nat) (xs : List Value) (hown : w.ownsRow 0 e' i.size v n xs) {m : Nat} {vx : Value} {news : List Value} (hX : AppX P w T' i.size m vx news) (hl : news.length = m * i.size) (h1 : ∀ u ∈ news, u.oneCell' = true)
    (h63 : n + m ≤ maxLen) (hbytes : (n + m) * i.bytes ≤ 140737488355328) :
    ∃ v' w' e'', (Builtin.append_ #[T, T'] ty #[v, vx]).run P w = .ok v' w' ∧ w'.ownsRow 0 e'' i.size v' (n + m) (xs ++ news) ∧ w.grownBy w' v.ownBlock ∧
      (∀ b, v'.ownBlock = some b → v.ownBlock = some b ∨ w.heap.size ≤ b) ∧ (e'' = e ∨ e'' = e') := by
  have hlen : (xs ++ news).length = (n + m) * i.size := by rw [List.length_append, hown.1, hl, Nat.add_mul]
  have hsmall : n + m ≤ 9223372036854775807 := by simp only [maxLen] at h63; omega
  have grown : ∀ (old : Nat), old < n + m → ∀ (row : Option Nat),
      (w.drew.alloc (.cells (xs.toArray ++ news.toArray ++ Builtin.zeroCells z.cells (grownCap w (n + m) old e - (n + m))) e)).ownsRow 0 e i.size
        (.slice (some ⟨w.heap.size, 0, none⟩) (n + m) (grownCap w (n + m) old e)) (n + m) (xs ++ news) ∧
      w.grownBy (w.drew.alloc (.cells (xs.toArray ++ news.toArray ++ Builtin.zeroCells z.cells (grownCap w (n + m) old e - (n + m))) e)) row := by
    intro old ho row
    have hge := grownCap_ge w (n + m) old e
    have hcm : grownCap w (n + m) old e ≤ maxLen := grownCap_le_maxLen w (n + m) old e h63
    refine ⟨⟨hlen, .inr ⟨w.heap.size, _, _, rfl, Nat.zero_le _, heap_alloc_new w.drew _, hge, hcm, ?_, ?_⟩⟩, ⟨rfl, rfl, rfl, by simp, fun k hk _ => heap_alloc_old w.drew _ hk⟩⟩
    · simp only [Array.size_append, List.size_toArray, size_zeroCells, hzs, hown.1, hl, ← Nat.add_mul]
      congr 1
      omega
    · simp only [Array.toList_append, List.append_assoc]
      rw [← List.append_assoc, ← hlen]
      exact List.take_left
  have hlenX := hX.len
  have hf0 := hX.cells w rfl
  have hf1 := hX.cells w.drew rfl
  rcases hown.2 with ⟨rfl, rfl⟩ | ⟨g, cap, cur, rfl, hbg, hg, hnc, hcm, hcs, htake⟩
  · have hx : xs = [] := List.eq_nil_of_length_eq_zero (by simpa using hown.1)
    subst hx
    by_cases hm : m = 0
    · have hn : news = [] := List.eq_nil_of_length_eq_zero (by rw [hl, hm, Nat.zero_mul])
      refine ⟨.slice none 0 0, w, e, ?_, by rw [hm, hn]; exact World.ownsRow_nil w 0 e i.size, ⟨rfl, rfl, rfl, Nat.le_refl _, fun _ _ _ => rfl⟩, by simp [Value.ownBlock], .inl rfl⟩
      subst hm
      rcases hX.und with ⟨e2, hu⟩ | hu <;> simp [Builtin.append_, run_underlying ht, run_underlying hu, sizeOf, typeInfo, hi, hlenX, hf0]
    · have h63' : ¬ (9223372036854775807 < ((m : Nat) : Int)) := by omega
      have h48' : ¬ (281474976710656 < Builtin.nextslicecap m 0 * i.bytes) := by
        have := growslice_fits (need := m) (old := 0) (bytes := i.bytes) (by omega) (by simpa using hbytes)
        omega
      have hr : (Builtin.append_ #[T, T'] ty #[.slice none 0 0, vx]).run P w = .ok (.slice (some ⟨w.heap.size, 0, none⟩) m (grownCap w m 0 e)) (w.drew.alloc (.cells (news.toArray ++ Builtin.zeroCells z.cells (grownCap w m 0 e - m)) e)) := by
        rcases hX.und with ⟨e2, hu⟩ | hu <;> simp [Builtin.append_, run_underlying ht, run_underlying hu, sizeOf, typeInfo, zeroValue, hi, hz, hlenX, hm, h63', h48', Question.forced, run_firstCells_none, hf1, newRow, grownCap]
      have hgr := grown 0 (by omega) (Value.ownBlock (.slice none 0 0))
      simp only [Nat.zero_add, List.nil_append, Array.empty_append] at hgr ⊢
      exact ⟨_, _, e, hr, hgr.1, hgr.2, fun b hb => .inr (by simp [Value.ownBlock] at hb; omega), .inl rfl⟩
  · by_cases hroom : n + m ≤ cap
    · have hfit : n * i.size + news.length ≤ cur.size := by rw [hl, hcs, ← Nat.add_mul]; exact Nat.mul_le_mul_right _ hroom
      have hst := run_storeCells_at P g (n * i.size) e' news 0 cur w hg (by simpa using hfit) h1
      simp only [Nat.add_zero] at hst
      have hr : (Builtin.append_ #[T, T'] ty #[.slice (some ⟨g, 0, none⟩) n cap, vx]).run P w =
          .ok (.slice (some ⟨g, 0, none⟩) (n + m) cap) (w.setRow g (cur.toList.take (n * i.size) ++ news ++ cur.toList.drop (n * i.size + news.length)).toArray) := by
        rcases hX.und with ⟨e2, hu⟩ | hu <;> simp [Builtin.append_, run_underlying ht, run_underlying hu, sizeOf, typeInfo, hi, hlenX, hroom, hf0, Addr.add_lit, hst]
      refine ⟨_, _, e', hr, ⟨hlen, .inr ⟨g, cap, _, rfl, hbg, setRow_heap w g cur _ e' _ hg, hroom, hcm, ?_, ?_⟩⟩, ⟨rfl, rfl, rfl, by simp, fun k _ hk => setRow_other w g k _ (fun e => hk (by simp [Value.ownBlock, e]))⟩, fun b hb => .inl hb, .inr rfl⟩
      · simp only [List.size_toArray, List.length_append, List.length_take, List.length_drop, Array.length_toList]
        omega
      · rw [htake, ← hlen]
        exact List.take_left
    · have holds : ∀ j u, xs[j]? = some u → w.cell? ((⟨g, 0, none⟩ : Addr).add j) = some u := hown.cells (g := g) rfl
      have hn : ¬ (n + m ≤ cap) := hroom
      have h63' : ¬ (9223372036854775807 < ((n : Int) + (m : Int))) := by omega
      have h48' : ¬ (281474976710656 < Builtin.nextslicecap (n + m) cap * i.bytes) := by
        have := growslice_fits (need := n + m) (old := cap) (bytes := i.bytes) (by omega) hbytes
        omega
      have hfo := run_firstCells_some (P := P) w.drew i.size n ⟨g, 0, none⟩ n cap xs hown.1 (by simpa using holds)
      have hr : (Builtin.append_ #[T, T'] ty #[.slice (some ⟨g, 0, none⟩) n cap, vx]).run P w =
          .ok (.slice (some ⟨w.heap.size, 0, none⟩) (n + m) (grownCap w (n + m) cap e)) (w.drew.alloc (.cells (xs.toArray ++ news.toArray ++ Builtin.zeroCells z.cells (grownCap w (n + m) cap e - (n + m))) e)) := by
        rcases hX.und with ⟨e2, hu⟩ | hu <;> (simp [Builtin.append_, run_underlying ht, run_underlying hu, sizeOf, typeInfo, zeroValue, hi, hz, hlenX, hn, h63', h48', Question.forced, hf1, hfo, newRow, grownCap]; congr 2; apply Array.ext'; simp [List.append_assoc])
      have hgr := grown cap (by omega) (Value.ownBlock (.slice (some ⟨g, 0, none⟩) n cap))
      exact ⟨_, _, e, hr, hgr.1, hgr.2, fun b hb => .inr (by simp [Value.ownBlock] at hb; omega), .inl rfl⟩

/-- append, as it runs: what comes, however it is owned. -/
theorem app_run {P : Program} {w : World} {T T' ty e : TypeId} (hd1 : P.underlying T = some (.slice e)) {sz : Nat} (hsz : sz = szOf P e) (hpos : 0 < sz) (hby : bytesT P e ≤ 100000)
    {n m : Nat} (hlen : n + m ≤ 1000000000) {vs vx : Value} {e' : TypeId} {xs news : List Value} (hr : w.ownsRow 0 e' sz vs n xs) (hX : AppX P w T' sz m vx news) (hnl : news.length = m * sz) (hn1 : ∀ u ∈ news, u.oneCell' = true) :
    ∃ v' w' e'', (Builtin.append_ #[T, T'] ty #[vs, vx]).run P w = .ok v' w' ∧ w'.ownsRow 0 e'' sz v' (n + m) (xs ++ news) ∧ w.grownBy w' vs.ownBlock ∧ (∀ b, v'.ownBlock = some b → (vs.ownBlock = some b ∨ w.heap.size ≤ b) ∧ b < w'.heap.size) := by
  obtain ⟨ti, hti, htsz⟩ := szOf_ne (P := P) (T := e) (by omega)
  have hT := ty_of hti
  obtain ⟨i, z, hi, hisz, hib, hiz, hz1, hz2, hz3⟩ := hT.info
  have hbt : bytesT P e = ti.bytes := by simp [bytesT, hti]
  have hzs : z.cells.size = i.size := by
    have := zerosOf_len hz1
    rw [Array.length_toList] at this; omega
  have hszi : sz = i.size := by omega
  subst hszi
  have hb2 : (n + m) * i.bytes ≤ 140737488355328 := by
    have h1 : i.bytes ≤ 100000 := by omega
    have : (n + m) * i.bytes ≤ 1000000000 * 100000 := Nat.mul_le_mul hlen h1
    omega
  obtain ⟨v', w', e'', hrun, hown', hgr, hblk, _⟩ := run_appX (P := P) (w := w) T T' ty e e' i z hd1 hi hiz hzs vs n xs hr hX hnl hn1 (by simp only [maxLen]; omega) hb2
  refine ⟨v', w', e'', hrun, hown', hgr, fun b hb => ⟨hblk b hb, ?_⟩⟩
  rcases hown'.2 with ⟨h1, _⟩ | ⟨g, cap, cur, h1, _, hg, _⟩
  · rw [h1] at hb; simp [Value.ownBlock] at hb
  · rw [h1] at hb; simp [Value.ownBlock] at hb; subst hb
    exact (Array.getElem?_eq_some_iff.1 hg).1

theorem strCells_P {γ : List Value} {ω : Own} {w : World} (s : ByteArray) : CellsP (FlatR γ ω w) 1 (byteRow s) (Go.Lib.strCells s) := by
  refine ⟨by rw [Go.Lib.strCells_length, byteRow_len, Nat.mul_one], fun e he => ?_, Go.Lib.strCells_oneCell s, fun j e hj i c hi => ?_⟩
  · simp only [byteRow, List.mem_map] at he
    obtain ⟨b, _, rfl⟩ := he; rfl
  · rw [byteRow_get] at hj
    cases hb : s.data.toList[j]? with
    | none => rw [hb] at hj; simp at hj
    | some b =>
      rw [hb] at hj; simp at hj; subst hj
      have hi0 : i = 0 := by have := (List.getElem?_eq_some_iff.1 hi).1; simpa using this
      subst hi0
      simp at hi; subst hi
      exact ⟨.int .u8 b.toNat, by simp [Go.Lib.strCells, hb], rfl, .int _ _⟩

def cellsM : MV → List MV
  | .agg cs => cs
  | m => [m]

theorem cellsM_ok {γ : List Value} {ω : Own} {w : World} {m : MV} {v : Value} (h : Rep γ ω w m v) (hm : ∀ vs, m ≠ .tup vs) (hg : m ≠ .gone) :
    ∃ us : List Value, v.cells = us.toArray ∧ us.length = (cellsM m).length ∧ (∀ u ∈ us, u.oneCell' = true) ∧ ∀ (i : Nat) (c : MV) (u : Value), (cellsM m)[i]? = some c → us[i]? = some u → Rep γ ω w c u := by
  have one : ∀ {u : Value} {m' : MV}, Rep γ ω w m' u → u.cells = #[u] → u.oneCell' = true → cellsM m' = [m'] → ∃ us : List Value, u.cells = us.toArray ∧ us.length = (cellsM m').length ∧ (∀ u ∈ us, u.oneCell' = true) ∧ ∀ (i : Nat) (c : MV) (u : Value), (cellsM m')[i]? = some c → us[i]? = some u → Rep γ ω w c u := by
    intro u m' hr h1 h2 h3
    refine ⟨[u], h1, by rw [h3]; rfl, by simpa using h2, fun i c x hc hx => ?_⟩
    rw [h3] at hc
    cases i with
    | zero => simp at hc hx; subst hc; subst hx; exact hr
    | succ i => simp at hc
  cases h with
  | agg cs vs hl hr h1 => exact ⟨vs, rfl, hl, h1, hr⟩
  | tup cs vs hl hr => exact absurd rfl (hm _)
  | bool b => exact one (.bool b) rfl rfl rfl
  | int k n => exact one (.int k n) rfl rfl rfl
  | str s => exact one (.str s) rfl rfl rfl
  | list es sz blk o cap us hcap hω hlt hsz hn hcell hrep => exact one (.list es sz blk o cap us hcap hω hlt hsz hn hcell hrep) rfl rfl rfl
  | list0 a cap => exact one (.list0 a cap) rfl rfl rfl
  | nil => exact one .nil rfl rfl rfl
  | fn f cs vs hl hr => exact one (.fn f cs vs hl hr) rfl rfl rfl
  | nilfn => exact one .nilfn rfl rfl rfl
  | ptr b off blk hb => exact one (.ptr b off blk hb) rfl rfl rfl
  | ref b _ hb h1 h2 => exact one (.ref b v hb h1 h2) h2 h1 rfl
  | eref b sz i off blk len cap hb => exact one (.eref b sz i off blk len cap hb) rfl rfl rfl
  | cptr cs off blk o us hω hlt hn hcell hrep => exact one (.cptr cs off blk o us hω hlt hn hcell hrep) rfl rfl rfl
  | nilptr => exact one .nilptr rfl rfl rfl
  | map m blk es clock hω hb hl hn hk hv hlt hbn hnd hh => exact one (.map m blk es clock hω hb hl hn hk hv hlt hbn hnd hh) rfl rfl rfl
  | map0 => exact one .map0 rfl rfl rfl
  | ifc t c v hc => exact one (.ifc t c v hc) rfl rfl rfl
  | nilifc => exact one .nilifc rfl rfl rfl
  | seq f c blk u hω hlt hn hcell h1 hc => exact one (.seq f c blk u hω hlt hn hcell h1 hc) rfl rfl rfl
  | gone _ => exact absurd rfl hg
theorem alloc_chg (γ : List Value) (ω : Own) (w : World) (hlt : ∀ b, w.heap.size ≤ b → ω b = none) (o : Obj) (x : Option Owner) :
    Chg (fun _ => False) γ ω w γ (fun b => if b = w.heap.size then x else ω b) (w.alloc o) ∧ (∀ b, (w.alloc o).heap.size ≤ b → (if b = w.heap.size then x else ω b) = none) := by
  refine ⟨⟨rfl, rfl, rfl, by simp, fun _ _ h => h, fun b hb h0 => ⟨Go.RowKit.Below.heap_alloc w o b hb, by rw [if_neg (by omega)]; exact h0⟩, fun b o' hb h0 _ => ⟨Go.RowKit.Below.heap_alloc w o b hb, by rw [if_neg (by omega)]; exact h0⟩⟩, fun b hb => ?_⟩
  simp at hb
  rw [if_neg (by omega)]
  exact hlt b (by omega)

theorem getD_bang (z : Array Value) (i : Nat) (hi : i < z.size) : z[i]! = z[i] := by simp [hi]
def litE : Nat → List (Nat × MV) → Option (List (List MV))
  | _, [] => some []
  | i, (j, m) :: r => if i = j then (litE (i + 1) r).map (cellsM m :: ·) else none
theorem fill_lit (sz : Nat) : ∀ (parts : List (Nat × Value)) (i : Nat) (pre : List Value) (rest : List Value) (xss : List (List Value)), pre.length = i * sz → rest.length = parts.length * sz → parts.length = xss.length →
    (∀ (q : Nat) (p : Nat × Value) (xs : List Value), parts[q]? = some p → xss[q]? = some xs → p.1 = i + q ∧ p.2.cells = xs.toArray ∧ xs.length = sz) →
    Instr.fill (fun i => some (i * sz, sz)) (pre ++ rest).toArray parts = some (pre ++ xss.flatten).toArray
  | [], i, pre, rest, xss, h1, h2, h3, h4 => by
    have : xss = [] := List.eq_nil_of_length_eq_zero h3.symm
    subst this
    have : rest = [] := List.eq_nil_of_length_eq_zero (by simpa using h2)
    subst this
    simp [Instr.fill]
  | p :: ps, i, pre, rest, xss, h1, h2, h3, h4 => by
    match xss, h3 with
    | xs :: xss, h3 =>
      obtain ⟨g1, g2, g3⟩ := h4 0 p xs rfl rfl
      obtain ⟨pi, pv⟩ := p
      simp only [Nat.add_zero] at g1
      subst g1
      have hrl : rest.length = sz + ps.length * sz := by rw [h2]; simp [Nat.add_mul]; omega
      have hsize : pv.cells.size = sz := by rw [g2]; simpa using g3
      have hfold : pv.cells.zipIdx.foldl (fun cs (x : Value × Nat) => cs.setIfInBounds (pi * sz + x.2) x.1) (pre ++ rest).toArray = (pre ++ xs ++ rest.drop sz).toArray := by
        rw [g2]
        have key : ∀ (ys : List Value) (k : Nat) (pre' rest' : List Value), pre'.length = pi * sz + k → ys.length ≤ rest'.length →
            (ys.zipIdx k).foldl (fun cs (x : Value × Nat) => cs.setIfInBounds (pi * sz + x.2) x.1) (pre' ++ rest').toArray = (pre' ++ ys ++ rest'.drop ys.length).toArray := by
          intro ys
          induction ys with
          | nil => intro k pre' rest' _ _; simp
          | cons y ys ih =>
            intro k pre' rest' hp hr
            match rest', hr with
            | z :: rest', hr =>
              simp only [List.zipIdx_cons, List.foldl_cons]
              have e : (pre' ++ z :: rest').toArray.setIfInBounds (pi * sz + k) y = ((pre' ++ [y]) ++ rest').toArray := by
                rw [← hp]
                simp
              rw [e, ih (k + 1) (pre' ++ [y]) rest' (by simp [hp]; omega) (by simpa using hr)]
              simp
        have := key xs 0 pre rest (by rw [h1]; rfl) (by omega)
        rw [g3] at this
        simp only [Array.foldl_toList, ← Array.foldl_toList, Array.toList_zipIdx]
        exact this
      have hcond : ¬ (pv.cells.size ≠ sz || decide (pi * sz + pv.cells.size > (pre ++ rest).toArray.size)) = true := by
        simp [hsize]; omega
      simp only [Instr.fill]
      rw [if_neg (by simpa [hsize] using by omega)]
      rw [hfold]
      have ih := fill_lit sz ps (pi + 1) (pre ++ xs) (rest.drop sz) xss (by simp [h1, g3, Nat.add_mul]) (by simp [hrl]) (by simpa using h3) (fun q p' xs' hp hx => by
        obtain ⟨a1, a2, a3⟩ := h4 (q + 1) p' xs' (by simpa using hp) (by simpa using hx)
        exact ⟨by omega, a2, a3⟩)
      rw [ih]
      simp

theorem litE_ok : ∀ {i : Nat} {l : List (Nat × MV)} {es : List (List MV)}, litE i l = some es → es = l.map (fun x => cellsM x.2) ∧ ∀ (q : Nat) (x : Nat × MV), l[q]? = some x → x.1 = i + q
  | i, [], es, h => by simp [litE] at h; subst h; simp
  | i, (j, m) :: r, es, h => by
    unfold litE at h
    split at h
    · rename_i hij
      subst hij
      cases hr : litE (i + 1) r with
      | none => rw [hr] at h; simp at h
      | some es' =>
        rw [hr] at h; simp at h; subst h
        obtain ⟨h1, h2⟩ := litE_ok hr
        refine ⟨by simp [h1], fun q x hq => ?_⟩
        cases q with
        | zero => simp at hq; subst hq; rfl
        | succ q => have := h2 q x (by simpa using hq); omega
    · exact absurd h (by simp)

theorem zip_get {α β : Type} {l : List α} {m : List β} {i : Nat} {a : α} {b : β} (h1 : l[i]? = some a) (h2 : m[i]? = some b) : (l.zip m)[i]? = some (a, b) := by
  rw [List.getElem?_zip_eq_some]; exact ⟨h1, h2⟩

/-- The values of parts, cell by cell. -/
theorem parts_cells {γ : List Value} {ω : Own} {w : World} {nt : Nat} {st : St} {a : Act} (h : Rel γ ω w nt st a) {xs : List Operand} {ms : List MV} (hm : shvs st xs = some ms) (ht : ∀ m ∈ ms, (∀ vs, m ≠ .tup vs) ∧ m ≠ .gone) :
    ∃ xss : List (List Value), xss.length = ms.length ∧ ∀ (i : Nat) (m : MV) (x : Operand) (us : List Value), ms[i]? = some m → xs[i]? = some x → xss[i]? = some us →
      (a.eval x).cells = us.toArray ∧ us.length = (cellsM m).length ∧ (∀ u ∈ us, u.oneCell' = true) ∧ ∀ (j : Nat) (c : MV) (u : Value), (cellsM m)[j]? = some c → us[j]? = some u → Rep γ ω w c u := by
  obtain ⟨h1, h2⟩ := shvs_rep h hm
  refine ⟨xs.map fun x => (a.eval x).cells.toList, by simpa using h1, fun i m x us g1 g2 g3 => ?_⟩
  rw [List.getElem?_map, g2] at g3
  simp at g3
  have hr := h2 i m (a.eval x) g1 (by rw [List.getElem?_map, g2]; rfl)
  obtain ⟨us', c1, c2, c3, c4⟩ := cellsM_ok hr (ht m (List.mem_of_getElem? g1)).1 (ht m (List.mem_of_getElem? g1)).2
  have : us = us' := by rw [← g3, c1]
  subst this
  exact ⟨c1, c2, c3, c4⟩

end Go.Pv
