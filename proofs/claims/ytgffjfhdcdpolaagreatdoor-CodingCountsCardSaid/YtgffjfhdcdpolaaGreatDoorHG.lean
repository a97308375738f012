/- The library of this work, H texts, part G: rows: append, make, literals. -/
import Derived.Test.YtgffjfhdcdpolaaGreatDoorHF
set_option linter.unusedVariables false
set_option linter.unusedSimpArgs false
namespace Go.Pv

/-- The cells of a row, each as R says. -/
structure CellsP (R : Nat → Nat → MV → Value → Prop) (sz : Nat) (es : List (List MV)) (xs : List Value) : Prop where
  len : xs.length = es.length * sz
  wid : ∀ e ∈ es, e.length = sz
  one : ∀ u ∈ xs, u.oneCell' = true
  cell : ∀ (j : Nat) (e : List MV), es[j]? = some e → ∀ (i : Nat) (c : MV), e[i]? = some c → ∃ u, xs[j * sz + i]? = some u ∧ R j i c u

/-- A shared cell. -/
abbrev FlatR (γ : List Value) (ω : Own) (w : World) : Nat → Nat → MV → Value → Prop := fun _ _ c u => np c = true ∧ Rep γ ω w c u
/-- A cell of an object. -/
def CR (γ : List Value) (ω : Own) (w : World) (N : List (Nat × Nat) → Owner) (foc : List (Nat × Nat × Nat)) (dp : Bool) : Nat → Nat → MV → Value → Prop := fun j i c u => match lkF foc j i with
  | some k => γ[k]? = some u
  | none => (dp = false → np c = true) ∧ CellT γ ω w (fun p => N ((j, i) :: p)) c u

theorem RowR.cellsP {γ : List Value} {ω : Own} {w : World} {N : List (Nat × Nat) → Owner} {foc : List (Nat × Nat × Nat)} {dp : Bool} {sz : Nat} {es : List (List MV)} {v : Value} {e : TypeId} {xs : List Value} (h : RowR γ ω w N foc dp sz es v e xs) : CellsP (CR γ ω w N foc dp) sz es xs :=
  ⟨h.len, h.wid, h.one, fun j y hj i c hi => h.cell j y i c hj hi⟩
theorem RowR.of {γ : List Value} {ω : Own} {w : World} {N : List (Nat × Nat) → Owner} {foc : List (Nat × Nat × Nat)} {dp : Bool} {sz : Nat} {es : List (List MV)} {v : Value} {e : TypeId} {xs : List Value} (ho : w.ownsRow 0 e sz v es.length xs) (hc : CellsP (CR γ ω w N foc dp) sz es xs)
    (hb : ∀ b, v.ownBlock = some b → ω b = some (N []) ∧ b < w.heap.size) : RowR γ ω w N foc dp sz es v e xs := ⟨ho, hc.len, hc.wid, hc.one, fun j y i c hj hi => hc.cell j y hj i c hi, hb⟩

theorem CellsP.mono {R R' : Nat → Nat → MV → Value → Prop} {sz : Nat} {es : List (List MV)} {xs : List Value} (h : CellsP R sz es xs) (hR : ∀ j i c u, j < es.length → R j i c u → R' j i c u) : CellsP R' sz es xs :=
  ⟨h.len, h.wid, h.one, fun j e hj i c hi => by obtain ⟨u, h1, h2⟩ := h.cell j e hj i c hi; exact ⟨u, h1, hR _ _ _ _ (List.getElem?_eq_some_iff.1 hj).1 h2⟩⟩

theorem CellsP.append {R R' : Nat → Nat → MV → Value → Prop} {sz : Nat} {es fs : List (List MV)} {xs ys : List Value} (h : CellsP R sz es xs) (k : CellsP R' sz fs ys) : CellsP (fun j i c u => if j < es.length then R j i c u else R' (j - es.length) i c u) sz (es ++ fs) (xs ++ ys) := by
  refine ⟨by simp [h.len, k.len, Nat.add_mul], ?_, ?_, ?_⟩
  · intro e he
    rcases List.mem_append.1 he with he | he
    · exact h.wid e he
    · exact k.wid e he
  · intro u hu
    rcases List.mem_append.1 hu with hu | hu
    · exact h.one u hu
    · exact k.one u hu
  · intro j e hj i c hi
    rcases Nat.lt_or_ge j es.length with hl | hl
    · rw [List.getElem?_append_left hl] at hj
      obtain ⟨u, hu, hr⟩ := h.cell j e hj i c hi
      exact ⟨u, by rw [List.getElem?_append_left (List.getElem?_eq_some_iff.1 hu).1]; exact hu, by rw [if_pos hl]; exact hr⟩
    · rw [List.getElem?_append_right hl] at hj
      obtain ⟨u, hu, hr⟩ := k.cell (j - es.length) e hj i c hi
      refine ⟨u, ?_, by rw [if_neg (by omega)]; exact hr⟩
      rw [List.getElem?_append_right (by rw [h.len]; have := Nat.mul_le_mul_right sz hl; omega)]
      rw [show j * sz + i - xs.length = (j - es.length) * sz + i from by
        rw [h.len, Nat.sub_mul]; have := Nat.mul_le_mul_right sz hl; omega]
      exact hu

theorem CellsP.nil (R : Nat → Nat → MV → Value → Prop) (sz : Nat) : CellsP R sz [] [] := ⟨by simp, by simp, by simp, by simp⟩

theorem flat_get {sz : Nat} (hsz : 0 < sz) (us : Nat → Nat → Value) (n j i : Nat) (hj : j < n) (hi : i < sz) : ((List.range (n * sz)).map fun q => us (q / sz) (q % sz))[j * sz + i]? = some (us j i) := by
  have hlt : j * sz + i < n * sz := by
    have : (j + 1) * sz ≤ n * sz := Nat.mul_le_mul_right _ hj
    rw [Nat.add_mul, Nat.one_mul] at this; omega
  rw [List.getElem?_map, List.getElem?_range hlt]
  simp only [Option.map_some]
  have e1 : (j * sz + i) / sz = j := by
    rw [Nat.add_comm, Nat.add_mul_div_right _ _ hsz, Nat.div_eq_of_lt hi, Nat.zero_add]
  have e2 : (j * sz + i) % sz = i := by
    rw [Nat.add_comm, Nat.add_mul_mod_self_right, Nat.mod_eq_of_lt hi]
  rw [e1, e2]

theorem val_cells {γ : List Value} {ω : Own} {w : World} {ys : List (List MV)} {u : Value} (h : Val γ ω w (.list ys) u) {sz : Nat} (hsz : 0 < sz) (hy : ∀ y ∈ ys, y.length = sz) :
    ∃ A c news, u = .slice A ys.length c ∧ CellsP (FlatR γ ω w) sz ys news ∧ (ys ≠ [] → ∃ b o, A = some ⟨b, o, none⟩ ∧ ∀ (j : Nat) (x : Value), news[j]? = some x → w.cell? ⟨b, o + j, none⟩ = some x) := by
  by_cases hnil : ys = []
  · subst hnil
    obtain ⟨A, cap, rfl⟩ := h.list
    exact ⟨A, cap, [], rfl, .nil _ _, fun h => absurd rfl h⟩
  · -- the cells, one by one
    have key : ∀ (b o cap : Nat) (us : Nat → Nat → Value), (∀ (j : Nat) (e : List MV), ys[j]? = some e → ∀ (i : Nat) (c : MV), e[i]? = some c → w.cell? ⟨b, o + (j * sz + i), none⟩ = some (us j i) ∧ (us j i).oneCell' = true ∧ np c = true ∧ Rep γ ω w c (us j i)) →
        u = .slice (some ⟨b, o, none⟩) ys.length cap → ∃ A c news, u = .slice A ys.length c ∧ CellsP (FlatR γ ω w) sz ys news ∧ (ys ≠ [] → ∃ b o, A = some ⟨b, o, none⟩ ∧ ∀ (j : Nat) (x : Value), news[j]? = some x → w.cell? ⟨b, o + j, none⟩ = some x) := by
      intro b o cap us hus hu
      have hall : ∀ q, q < ys.length * sz → ∃ (e : List MV) (c : MV), ys[q / sz]? = some e ∧ e[q % sz]? = some c := by
        intro q hq
        have h1 : q / sz < ys.length := Nat.div_lt_of_lt_mul (by rw [Nat.mul_comm]; exact hq)
        refine ⟨ys[q / sz], ?_⟩
        have h2 : q % sz < (ys[q / sz]).length := by rw [hy _ (List.getElem_mem h1)]; exact Nat.mod_lt _ hsz
        exact ⟨(ys[q / sz])[q % sz], List.getElem?_eq_getElem h1, List.getElem?_eq_getElem h2⟩
      refine ⟨_, cap, (List.range (ys.length * sz)).map fun q => us (q / sz) (q % sz), hu, ⟨by simp, hy, ?_, ?_⟩, fun _ => ⟨b, o, rfl, ?_⟩⟩
      · intro v hv
        simp only [List.mem_map, List.mem_range] at hv
        obtain ⟨q, hq, rfl⟩ := hv
        obtain ⟨e, c, h1, h2⟩ := hall q hq
        exact (hus _ e h1 _ c h2).2.1
      · intro j e hj i c hi
        have hjl := (List.getElem?_eq_some_iff.1 hj).1
        have hil : i < sz := by rw [← hy e (List.mem_of_getElem? hj)]; exact (List.getElem?_eq_some_iff.1 hi).1
        exact ⟨us j i, flat_get hsz us _ j i hjl hil, (hus j e hj i c hi).2.2⟩
      · intro q x hq
        obtain ⟨hq1, hq2⟩ := range_map hq
        subst hq2
        obtain ⟨e, c, h1, h2⟩ := hall q hq1
        have := (hus _ e h1 _ c h2).1
        rw [Nat.div_add_mod' q sz] at this
        exact this
    have sz0 : ∀ {s : Nat}, (∀ y ∈ ys, y.length = s) → s = sz := by
      intro s hs
      cases ys with
      | nil => exact absurd rfl hnil
      | cons y r => rw [← hs y (by simp), hy y (by simp)]
    rcases h with h | ⟨k, s, es', e, xs, h, hr⟩ | ⟨k, mm, blk, es, clock, h, _⟩
    · cases h with
      | list _ s0 blk o cap us hcap hω hlt hsz0 hn hcell hrep =>
        have e0 := sz0 hsz0
        subst e0
        exact key blk o cap us (fun j e hj i c hi => ⟨(hcell j e hj i c hi).1, (hcell j e hj i c hi).2, npL_get (hn e (List.mem_of_getElem? hj)) i c hi, hrep j e hj i c hi⟩) rfl
      | list0 => exact absurd rfl hnil
    · injection h with h; subst h
      have e0 := sz0 hr.wid
      subst e0
      obtain ⟨blk, cap, hvb, hve⟩ := hr.hasBlk (List.length_pos_iff.2 hnil)
      obtain ⟨cap', _, _, _, _, h5⟩ := hr.cells hvb
      refine key blk 0 cap (fun j i => (xs[j * s + i]?).getD undef) (fun j y hj i c hi => ?_) hve
      obtain ⟨u', g1, g2, g3⟩ := hr.flat hj hi
      rw [g1, Nat.zero_add]
      exact ⟨(h5 j i u' g1).1, (h5 j i u' g1).2, g2, g3⟩
    · exact absurd h (by simp)

/-! ### append -/
theorem run_app_types {P : Program} {w : World} {T T' ty e e' : TypeId} {A A' : Option Addr} {n c n' c' : Nat} (h : P.underlying T = some (.slice e)) (h' : P.underlying T' = some (.slice e')) :
    (Builtin.append_ #[T, T'] ty #[.slice A n c, .slice A' n' c']).run P w = (Builtin.append_ #[T, T] ty #[.slice A n c, .slice A' n' c']).run P w := by
  simp [Builtin.append_, run_underlying h, run_underlying h']

theorem run_app_nil {P : Program} {w : World} {T ty e : TypeId} {A' : Option Addr} {n' c' : Nat} {A : Option Addr} {c : Nat} (h : P.underlying T = some (.slice e)) (hle : n' ≤ c') :
    (Builtin.append_ #[T, T] ty #[.slice A' n' c', .slice A 0 c]).run P w = (Builtin.append_ #[T, T] ty #[.slice A' n' c', .slice (some ⟨0, 0, none⟩) 0 c]).run P w := by
  cases A <;> simp [Builtin.append_, run_underlying h, Builtin.lenOf, Builtin.firstCells, loadCells, loadCellsFrom, hle]

theorem run_app_room {P : Program} {w : World} (t ty e e' : TypeId) (i : TypeInfo) (ht : P.underlying t = some (.slice e)) (hi : P.info? e = some i)
    (g sLen sCap : Nat) (cur : Array Value) (hg : w.heap[g]? = some (.cells cur e' (0, 0)))
    (a : Addr) (m c : Nat) (news : List Value) (hl : news.length = m * i.size) (hnews : ∀ j u, news[j]? = some u → w.cell? (a.add j) = some u) (h1 : ∀ u ∈ news, u.oneCell' = true)
    (hroom : sLen + m ≤ sCap) (hfit : sLen * i.size + news.length ≤ cur.size) :
    (Builtin.append_ #[t, t] ty #[.slice (some ⟨g, 0, none⟩) sLen sCap, .slice (some a) m c]).run P w =
      .ok (.slice (some ⟨g, 0, none⟩) (sLen + m) sCap) (w.setRow g (cur.toList.take (sLen * i.size) ++ news ++ cur.toList.drop (sLen * i.size + news.length)).toArray) := by
  have hf := run_firstCells_some (P := P) w i.size m a m c news hl hnews
  have hst := run_storeCells_at P g (sLen * i.size) e' news 0 cur w hg (by simpa using hfit) h1
  simp only [Nat.add_zero] at hst
  simp [Builtin.append_, run_underlying ht, sizeOf, typeInfo, hi, Builtin.lenOf, hroom, hf, Addr.add_lit, hst]

theorem run_app {P : Program} {w : World} (t ty e e' : TypeId) (i : TypeInfo) (z : Value) (ht : P.underlying t = some (.slice e)) (hi : P.info? e = some i) (hz : i.zero = some z)
    (hzs : z.cells.size = i.size) (hsz : 0 < i.size)
    (v : Value) (n : Nat) (xs : List Value) (hown : w.ownsRow 0 e' i.size v n xs)
    (a : Addr) (m c : Nat) (news : List Value) (hl : news.length = m * i.size) (hnews : ∀ j u, news[j]? = some u → w.cell? (a.add j) = some u) (h1 : ∀ u ∈ news, u.oneCell' = true)
    (h63 : n + m ≤ maxLen) (hbytes : (n + m) * i.bytes ≤ 140737488355328) :
    ∃ v' w' e'', (Builtin.append_ #[t, t] ty #[v, .slice (some a) m c]).run P w = .ok v' w' ∧ w'.ownsRow 0 e'' i.size v' (n + m) (xs ++ news) ∧ w.grownBy w' v.ownBlock ∧
      (∀ b, v'.ownBlock = some b → v.ownBlock = some b ∨ w.heap.size ≤ b) := by
  by_cases hroom : ∃ g cap, v = .slice (some ⟨g, 0, none⟩) n cap ∧ n + m ≤ cap
  · obtain ⟨g, cap, rfl, hr⟩ := hroom
    rcases hown.2 with ⟨h0, _⟩ | ⟨g', cap', cur, heq, hbg, hg, hnc, hcm, hcs, htake⟩
    · exact absurd h0 (by simp)
    · injection heq with h2 _ h3
      injection h2 with h2; injection h2 with h2 _ _
      subst h2; subst h3
      have hfit : n * i.size + news.length ≤ cur.size := by rw [hl, hcs, ← Nat.add_mul]; exact Nat.mul_le_mul_right _ hr
      have hrun := run_app_room (P := P) t ty e e' i ht hi g n cap cur hg a m c news hl hnews h1 hr hfit
      have hlen : (xs ++ news).length = (n + m) * i.size := by rw [List.length_append, hown.1, hl, Nat.add_mul]
      refine ⟨_, _, e', hrun, ⟨hlen, .inr ⟨g, cap, _, rfl, hbg, setRow_heap w g cur _ e' _ hg, hr, hcm, ?_, ?_⟩⟩, ⟨rfl, rfl, rfl, by simp, fun k _ hk => setRow_other w g k _ (fun e => hk (by simp [Value.ownBlock, e]))⟩, fun b hb => .inl hb⟩
      · simp only [List.size_toArray, List.length_append, List.length_take, List.length_drop, Array.length_toList]
        omega
      · rw [htake, ← hlen]
        exact List.take_left
  · -- a new row, whatever the old one's type says
    have hown2 : ∃ w0 : World, True := ⟨w, trivial⟩
    rcases hown.2 with ⟨rfl, rfl⟩ | ⟨g, cap, cur, rfl, hbg, hg, hnc, hcm, hcs, htake⟩
    · have hx : xs = [] := List.eq_nil_of_length_eq_zero (by simpa using hown.1)
      subst hx
      obtain ⟨v', w', hr, h2, h3, h4⟩ := run_append_own (P := P) w 0 t ty e i z i.size i.bytes ht hi hz rfl rfl hzs hsz (.slice none 0 0) 0 [] (World.ownsRow_nil w 0 e i.size) a m c news hl hnews h1 h63 hbytes (Nat.zero_le _)
      refine ⟨v', w', e, hr, h2, h3, fun b hb => .inr ?_⟩
      rcases h2.2 with ⟨rfl, _⟩ | ⟨g, cap, cur, rfl, _, hg, _⟩
      · simp [Value.ownBlock] at hb
      · simp [Value.ownBlock] at hb
        subst hb
        rcases Nat.lt_or_ge g w.heap.size with hlt | hge
        · exfalso
          -- the value is new: of an elder block nothing is told; it is the one that append made
          have hn : ¬ (0 + m = 0) := by
            intro h0
            have hm : m = 0 := by omega
            subst hm
            have := h4.2 ⟨rfl, rfl⟩
            exact absurd this (by simp)
          have hmpos : 0 < m := by omega
          have hrn := run_append_nil (P := P) w t ty e i z ht hi hz a m c news hl hnews hmpos (by simp only [maxLen] at h63; omega) (by simp only [Nat.zero_add] at hbytes; omega)
          rw [hr] at hrn
          injection hrn with hv _
          injection hv with hv _ _
          injection hv with hv
          injection hv with hv _ _
          omega
        · exact hge
    · have hnr : cap < n + m := by
        rcases Nat.lt_or_ge cap (n + m) with h | h
        · exact h
        · exact absurd ⟨g, cap, rfl, h⟩ hroom
      have holds : ∀ j u, xs[j]? = some u → w.cell? ((⟨g, 0, none⟩ : Addr).add j) = some u := hown.cells (g := g) rfl
      have hr := run_append_grow (P := P) w t ty e i z ht hi hz ⟨g, 0, none⟩ n cap xs hown.1 holds a m c news hl hnews hnr (by simp only [maxLen] at h63; omega) (growslice_fits hnr hbytes)
      have hge := grownCap_ge w (n + m) cap e
      have hcm' : grownCap w (n + m) cap e ≤ maxLen := grownCap_le_maxLen w (n + m) cap e h63
      have hlen : (xs ++ news).length = (n + m) * i.size := by rw [List.length_append, hown.1, hl, Nat.add_mul]
      refine ⟨_, _, e, hr, ⟨hlen, .inr ⟨w.heap.size, _, _, rfl, Nat.zero_le _, heap_alloc_new w.drew _, hge, hcm', ?_, ?_⟩⟩, ⟨rfl, rfl, rfl, by simp, fun k hk _ => heap_alloc_old w.drew _ hk⟩, fun b hb => .inr ?_⟩
      · simp only [Array.size_append, List.size_toArray, size_zeroCells, hzs, hown.1, hl, ← Nat.add_mul]
        congr 1
        omega
      · simp only [Array.toList_append, List.append_assoc]
        rw [← List.append_assoc, ← hlen]
        exact List.take_left
      · simp [Value.ownBlock] at hb; omega

def bytesT (P : Program) (T : TypeId) : Nat := match tiOf P T with | some ti => ti.bytes | none => 0

theorem zerosOf_len : ∀ {vs : List Value} {l : List MV}, zerosOf vs = some l → vs.length = l.length
  | [], l, h => by simp [zerosOf] at h; subst h; rfl
  | v :: r, l, h => by
    unfold zerosOf at h
    split at h
    · rename_i m l' hm hl; injection h with h; subst h; simp [zerosOf_len hl]
    · exact absurd h (by simp)

/-- append, as it runs: what comes, however it is owned. -/
theorem app_run {P : Program} {w : World} {T T' ty e e2 : TypeId} (hd1 : P.underlying T = some (.slice e)) (hd2 : P.underlying T' = some (.slice e2)) {sz : Nat} (hsz : sz = szOf P e) (hpos : 0 < sz) (hby : bytesT P e ≤ 100000)
    {n m : Nat} (hlen : n + m ≤ 1000000000) {vs vx : Value} {e' : TypeId} {xs news : List Value} (hr : w.ownsRow 0 e' sz vs n xs) {A : Option Addr} {cc : Nat} (hvx : vx = .slice A m cc) (hnl : news.length = m * sz) (hn1 : ∀ u ∈ news, u.oneCell' = true)
    (hA : m ≠ 0 → ∃ b o, A = some ⟨b, o, none⟩ ∧ ∀ (j : Nat) (x : Value), news[j]? = some x → w.cell? ⟨b, o + j, none⟩ = some x) :
    ∃ v' w' e'', (Builtin.append_ #[T, T'] ty #[vs, vx]).run P w = .ok v' w' ∧ w'.ownsRow 0 e'' sz v' (n + m) (xs ++ news) ∧ w.grownBy w' vs.ownBlock ∧ (∀ b, v'.ownBlock = some b → (vs.ownBlock = some b ∨ w.heap.size ≤ b) ∧ b < w'.heap.size) := by
  obtain ⟨ti, hti, htsz⟩ := szOf_ne (P := P) (T := e) (by omega)
  have hT := ty_of hti
  obtain ⟨i, z, hi, hisz, hib, hiz, hz1, hz2, hz3⟩ := hT.info
  have hbt : bytesT P e = ti.bytes := by simp [bytesT, hti]
  have hzs : z.cells.size = i.size := by
    have := zerosOf_len hz1
    rw [Array.length_toList] at this; omega
  have hszi : sz = i.size := by omega
  subst hszi
  subst hvx
  have hvs : ∃ A' c', vs = .slice A' n c' ∧ n ≤ c' := by
    rcases hr.2 with ⟨h1, h0⟩ | ⟨g, cap, cur, h1, _, _, h2, _⟩
    · exact ⟨none, 0, by rw [h1, h0], by omega⟩
    · exact ⟨_, cap, h1, h2⟩
  obtain ⟨A', c', hve, hle⟩ := hvs
  have hadr : ∃ ad : Addr, (∀ (j : Nat) (u : Value), news[j]? = some u → w.cell? (ad.add j) = some u) ∧
      (Builtin.append_ #[T, T] ty #[vs, .slice A m cc]).run P w = (Builtin.append_ #[T, T] ty #[vs, .slice (some ad) m cc]).run P w := by
    by_cases hny : m = 0
    · subst hny
      refine ⟨⟨0, 0, none⟩, fun j u hj => ?_, ?_⟩
      · have : news = [] := List.eq_nil_of_length_eq_zero (by simpa using hnl)
        rw [this] at hj; simp at hj
      · rw [hve]; exact run_app_nil hd1 hle
    · obtain ⟨b, o, rfl, hcell⟩ := hA hny
      exact ⟨⟨b, o, none⟩, fun j u hj => by rw [Addr.add_lit]; exact hcell j u hj, rfl⟩
  obtain ⟨ad, hcell, heq⟩ := hadr
  have hb2 : (n + m) * i.bytes ≤ 140737488355328 := by
    have h1 : i.bytes ≤ 100000 := by omega
    have : (n + m) * i.bytes ≤ 1000000000 * 100000 := Nat.mul_le_mul hlen h1
    omega
  obtain ⟨v', w', e'', hrun, hown', hgr, hblk⟩ := run_app (P := P) (w := w) T ty e e' i z hd1 hi hiz hzs hpos vs n xs hr ad m cc news hnl hcell hn1 (by simp only [maxLen]; omega) hb2
  refine ⟨v', w', e'', ?_, hown', hgr, fun b hb => ⟨hblk b hb, ?_⟩⟩
  · have e2 : (Builtin.append_ #[T, T'] ty #[vs, .slice A m cc]).run P w = (Builtin.append_ #[T, T] ty #[vs, .slice A m cc]).run P w := by
      rw [hve]; exact run_app_types hd1 hd2
    rw [e2, heq]; exact hrun
  · rcases hown'.2 with ⟨h1, _⟩ | ⟨g, cap, cur, h1, _, hg, _⟩
    · rw [h1] at hb; simp [Value.ownBlock] at hb
    · rw [h1] at hb; simp [Value.ownBlock] at hb; subst hb
      exact (Array.getElem?_eq_some_iff.1 hg).1

def cellsM : MV → List MV
  | .agg cs => cs
  | m => [m]

theorem cellsM_ok {γ : List Value} {ω : Own} {w : World} {m : MV} {v : Value} (h : Rep γ ω w m v) (hm : ∀ vs, m ≠ .tup vs) (hg : m ≠ .gone) :
    ∃ us : List Value, v.cells = us.toArray ∧ us.length = (cellsM m).length ∧ (∀ u ∈ us, u.oneCell' = true) ∧ ∀ (i : Nat) (c : MV) (u : Value), (cellsM m)[i]? = some c → us[i]? = some u → Rep γ ω w c u := by
  have one : ∀ {u : Value} {m' : MV}, Rep γ ω w m' u → u.cells = #[u] → u.oneCell' = true → cellsM m' = [m'] → ∃ us : List Value, u.cells = us.toArray ∧ us.length = (cellsM m').length ∧ (∀ u ∈ us, u.oneCell' = true) ∧ ∀ (i : Nat) (c : MV) (u : Value), (cellsM m')[i]? = some c → us[i]? = some u → Rep γ ω w c u := by
    intro u m' hr h1 h2 h3
    refine ⟨[u], h1, by rw [h3]; rfl, by simpa using h2, fun i c x hc hx => ?_⟩
    rw [h3] at hc
    cases i with
    | zero => simp at hc hx; subst hc; subst hx; exact hr
    | succ i => simp at hc
  cases h with
  | agg cs vs hl hr h1 => exact ⟨vs, rfl, hl, h1, hr⟩
  | tup cs vs hl hr => exact absurd rfl (hm _)
  | bool b => exact one (.bool b) rfl rfl rfl
  | int k n => exact one (.int k n) rfl rfl rfl
  | str s => exact one (.str s) rfl rfl rfl
  | list es sz blk o cap us hcap hω hlt hsz hn hcell hrep => exact one (.list es sz blk o cap us hcap hω hlt hsz hn hcell hrep) rfl rfl rfl
  | list0 a cap => exact one (.list0 a cap) rfl rfl rfl
  | nil => exact one .nil rfl rfl rfl
  | fn f cs vs hl hr => exact one (.fn f cs vs hl hr) rfl rfl rfl
  | nilfn => exact one .nilfn rfl rfl rfl
  | ptr b off blk hb => exact one (.ptr b off blk hb) rfl rfl rfl
  | ref b _ hb h1 h2 => exact one (.ref b v hb h1 h2) h2 h1 rfl
  | eref b sz i off blk len cap hb => exact one (.eref b sz i off blk len cap hb) rfl rfl rfl
  | cptr cs off blk o us hω hlt hn hcell hrep => exact one (.cptr cs off blk o us hω hlt hn hcell hrep) rfl rfl rfl
  | nilptr => exact one .nilptr rfl rfl rfl
  | map m blk es clock hω hb hl hn hk hv hlt hbn hnd hh => exact one (.map m blk es clock hω hb hl hn hk hv hlt hbn hnd hh) rfl rfl rfl
  | map0 => exact one .map0 rfl rfl rfl
  | ifc t c v hc => exact one (.ifc t c v hc) rfl rfl rfl
  | nilifc => exact one .nilifc rfl rfl rfl
  | gone _ => exact absurd rfl hg
theorem alloc_chg (γ : List Value) (ω : Own) (w : World) (hlt : ∀ b, w.heap.size ≤ b → ω b = none) (o : Obj) (x : Option Owner) :
    Chg (fun _ => False) γ ω w γ (fun b => if b = w.heap.size then x else ω b) (w.alloc o) ∧ (∀ b, (w.alloc o).heap.size ≤ b → (if b = w.heap.size then x else ω b) = none) := by
  refine ⟨⟨rfl, rfl, rfl, by simp, fun _ _ h => h, fun b hb h0 => ⟨Go.RowKit.Below.heap_alloc w o b hb, by rw [if_neg (by omega)]; exact h0⟩, fun b o' hb h0 _ => ⟨Go.RowKit.Below.heap_alloc w o b hb, by rw [if_neg (by omega)]; exact h0⟩⟩, fun b hb => ?_⟩
  simp at hb
  rw [if_neg (by omega)]
  exact hlt b (by omega)

theorem getD_bang (z : Array Value) (i : Nat) (hi : i < z.size) : z[i]! = z[i] := by simp [hi]
def litE : Nat → List (Nat × MV) → Option (List (List MV))
  | _, [] => some []
  | i, (j, m) :: r => if i = j then (litE (i + 1) r).map (cellsM m :: ·) else none
theorem fill_lit (sz : Nat) : ∀ (parts : List (Nat × Value)) (i : Nat) (pre : List Value) (rest : List Value) (xss : List (List Value)), pre.length = i * sz → rest.length = parts.length * sz → parts.length = xss.length →
    (∀ (q : Nat) (p : Nat × Value) (xs : List Value), parts[q]? = some p → xss[q]? = some xs → p.1 = i + q ∧ p.2.cells = xs.toArray ∧ xs.length = sz) →
    Instr.fill (fun i => some (i * sz, sz)) (pre ++ rest).toArray parts = some (pre ++ xss.flatten).toArray
  | [], i, pre, rest, xss, h1, h2, h3, h4 => by
    have : xss = [] := List.eq_nil_of_length_eq_zero h3.symm
    subst this
    have : rest = [] := List.eq_nil_of_length_eq_zero (by simpa using h2)
    subst this
    simp [Instr.fill]
  | p :: ps, i, pre, rest, xss, h1, h2, h3, h4 => by
    match xss, h3 with
    | xs :: xss, h3 =>
      obtain ⟨g1, g2, g3⟩ := h4 0 p xs rfl rfl
      obtain ⟨pi, pv⟩ := p
      simp only [Nat.add_zero] at g1
      subst g1
      have hrl : rest.length = sz + ps.length * sz := by rw [h2]; simp [Nat.add_mul]; omega
      have hsize : pv.cells.size = sz := by rw [g2]; simpa using g3
      have hfold : pv.cells.zipIdx.foldl (fun cs (x : Value × Nat) => cs.setIfInBounds (pi * sz + x.2) x.1) (pre ++ rest).toArray = (pre ++ xs ++ rest.drop sz).toArray := by
        rw [g2]
        have key : ∀ (ys : List Value) (k : Nat) (pre' rest' : List Value), pre'.length = pi * sz + k → ys.length ≤ rest'.length →
            (ys.zipIdx k).foldl (fun cs (x : Value × Nat) => cs.setIfInBounds (pi * sz + x.2) x.1) (pre' ++ rest').toArray = (pre' ++ ys ++ rest'.drop ys.length).toArray := by
          intro ys
          induction ys with
          | nil => intro k pre' rest' _ _; simp
          | cons y ys ih =>
            intro k pre' rest' hp hr
            match rest', hr with
            | z :: rest', hr =>
              simp only [List.zipIdx_cons, List.foldl_cons]
              have e : (pre' ++ z :: rest').toArray.setIfInBounds (pi * sz + k) y = ((pre' ++ [y]) ++ rest').toArray := by
                rw [← hp]
                simp
              rw [e, ih (k + 1) (pre' ++ [y]) rest' (by simp [hp]; omega) (by simpa using hr)]
              simp
        have := key xs 0 pre rest (by rw [h1]; rfl) (by omega)
        rw [g3] at this
        simp only [Array.foldl_toList, ← Array.foldl_toList, Array.toList_zipIdx]
        exact this
      have hcond : ¬ (pv.cells.size ≠ sz || decide (pi * sz + pv.cells.size > (pre ++ rest).toArray.size)) = true := by
        simp [hsize]; omega
      simp only [Instr.fill]
      rw [if_neg (by simpa [hsize] using by omega)]
      rw [hfold]
      have ih := fill_lit sz ps (pi + 1) (pre ++ xs) (rest.drop sz) xss (by simp [h1, g3, Nat.add_mul]) (by simp [hrl]) (by simpa using h3) (fun q p' xs' hp hx => by
        obtain ⟨a1, a2, a3⟩ := h4 (q + 1) p' xs' (by simpa using hp) (by simpa using hx)
        exact ⟨by omega, a2, a3⟩)
      rw [ih]
      simp

theorem litE_ok : ∀ {i : Nat} {l : List (Nat × MV)} {es : List (List MV)}, litE i l = some es → es = l.map (fun x => cellsM x.2) ∧ ∀ (q : Nat) (x : Nat × MV), l[q]? = some x → x.1 = i + q
  | i, [], es, h => by simp [litE] at h; subst h; simp
  | i, (j, m) :: r, es, h => by
    unfold litE at h
    split at h
    · rename_i hij
      subst hij
      cases hr : litE (i + 1) r with
      | none => rw [hr] at h; simp at h
      | some es' =>
        rw [hr] at h; simp at h; subst h
        obtain ⟨h1, h2⟩ := litE_ok hr
        refine ⟨by simp [h1], fun q x hq => ?_⟩
        cases q with
        | zero => simp at hq; subst hq; rfl
        | succ q => have := h2 q x (by simpa using hq); omega
    · exact absurd h (by simp)

theorem zip_get {α β : Type} {l : List α} {m : List β} {i : Nat} {a : α} {b : β} (h1 : l[i]? = some a) (h2 : m[i]? = some b) : (l.zip m)[i]? = some (a, b) := by
  rw [List.getElem?_zip_eq_some]; exact ⟨h1, h2⟩

/-- The values of parts, cell by cell. -/
theorem parts_cells {γ : List Value} {ω : Own} {w : World} {nt : Nat} {st : St} {a : Act} (h : Rel γ ω w nt st a) {xs : List Operand} {ms : List MV} (hm : shvs st xs = some ms) (ht : ∀ m ∈ ms, (∀ vs, m ≠ .tup vs) ∧ m ≠ .gone) :
    ∃ xss : List (List Value), xss.length = ms.length ∧ ∀ (i : Nat) (m : MV) (x : Operand) (us : List Value), ms[i]? = some m → xs[i]? = some x → xss[i]? = some us →
      (a.eval x).cells = us.toArray ∧ us.length = (cellsM m).length ∧ (∀ u ∈ us, u.oneCell' = true) ∧ ∀ (j : Nat) (c : MV) (u : Value), (cellsM m)[j]? = some c → us[j]? = some u → Rep γ ω w c u := by
  obtain ⟨h1, h2⟩ := shvs_rep h hm
  refine ⟨xs.map fun x => (a.eval x).cells.toList, by simpa using h1, fun i m x us g1 g2 g3 => ?_⟩
  rw [List.getElem?_map, g2] at g3
  simp at g3
  have hr := h2 i m (a.eval x) g1 (by rw [List.getElem?_map, g2]; rfl)
  obtain ⟨us', c1, c2, c3, c4⟩ := cellsM_ok hr (ht m (List.mem_of_getElem? g1)).1 (ht m (List.mem_of_getElem? g1)).2
  have : us = us' := by rw [← g3, c1]
  subst this
  exact ⟨c1, c2, c3, c4⟩

end Go.Pv
