/- The library of this work, part B: texts M10 M11 M12 M14 M15 M16 M17 M18 M19 M19b M20. Printed by merge.py. -/
import Derived.Test.YtoakchnegkmepaaDoorLA
import Derived.Laws.IdiomStrings
section M10
/- A library of this session: append; contracts; calls. -/
set_option linter.unusedVariables false
set_option linter.unusedSimpArgs false
namespace Go.Pv

theorem Rep.relabel {γ : List Nat} {ω ω' : Own} {w : World} (hω : ∀ b, ω b = none → ω' b = none) {m : MV} {v : Value} (h : Rep γ ω w m v) : Rep γ ω' w m v := by
  induction h with
  | bool b => exact .bool b
  | int k n => exact .int k n
  | str s => exact .str s
  | agg cs vs hl _ h1 ih => exact .agg cs vs hl ih h1
  | tup cs vs hl _ ih => exact .tup cs vs hl ih
  | list es sz blk o cap us hcap hω' hlt hsz hcell _ ih => exact .list es sz blk o cap us hcap (hω _ hω') hlt hsz hcell ih
  | list0 a cap => exact .list0 a cap
  | nil => exact .nil
  | fn f cs vs hl _ ih => exact .fn f cs vs hl ih
  | nilfn => exact .nilfn
  | ptr b off blk hb => exact .ptr b off blk hb
  | cptr cs off blk o us hω' hlt hcell _ ih => exact .cptr cs off blk o us (hω _ hω') hlt hcell ih
  | nilptr => exact .nilptr
  | map m blk es clock hω' hb hl hk _ hlt hbn hnd ih => exact .map m blk es clock (hω _ hω') hb hl hk ih hlt hbn hnd
  | map0 => exact .map0
  | ifc t c v _ ih => exact .ifc t c v ih
  | nilifc => exact .nilifc

/-! ### The cells of a list, wherever it lies -/
theorem cells_append {γ : List Nat} {ω : Own} {w : World} {sz : Nat} {es fs : List (List MV)} {xs ys : List Value} (h : Cells γ ω w sz es xs) (k : Cells γ ω w sz fs ys) : Cells γ ω w sz (es ++ fs) (xs ++ ys) := by
  refine ⟨by simp [h.len, k.len, Nat.add_mul], ?_, ?_, ?_⟩
  · intro e he
    rcases List.mem_append.1 he with he | he
    · exact h.wid e he
    · exact k.wid e he
  · intro u hu
    rcases List.mem_append.1 hu with hu | hu
    · exact h.one u hu
    · exact k.one u hu
  · intro j e hj i c hi
    rcases Nat.lt_or_ge j es.length with hl | hl
    · rw [List.getElem?_append_left hl] at hj
      obtain ⟨u, hu, hr⟩ := h.rep j e hj i c hi
      exact ⟨u, by rw [List.getElem?_append_left (List.getElem?_eq_some_iff.1 hu).1]; exact hu, hr⟩
    · rw [List.getElem?_append_right hl] at hj
      obtain ⟨u, hu, hr⟩ := k.rep (j - es.length) e hj i c hi
      refine ⟨u, ?_, hr⟩
      rw [List.getElem?_append_right (by rw [h.len]; have := Nat.mul_le_mul_right sz hl; omega)]
      rw [show j * sz + i - xs.length = (j - es.length) * sz + i from by
        rw [h.len, Nat.sub_mul]; have := Nat.mul_le_mul_right sz hl; omega]
      exact hu

theorem flat_get {sz : Nat} (hsz : 0 < sz) (us : Nat → Nat → Value) (n j i : Nat) (hj : j < n) (hi : i < sz) : ((List.range (n * sz)).map fun q => us (q / sz) (q % sz))[j * sz + i]? = some (us j i) := by
  have hlt : j * sz + i < n * sz := by
    have : (j + 1) * sz ≤ n * sz := Nat.mul_le_mul_right _ hj
    rw [Nat.add_mul, Nat.one_mul] at this; omega
  rw [List.getElem?_map, List.getElem?_range hlt]
  simp only [Option.map_some]
  have e1 : (j * sz + i) / sz = j := by
    rw [Nat.add_comm, Nat.add_mul_div_right _ _ hsz, Nat.div_eq_of_lt hi, Nat.zero_add]
  have e2 : (j * sz + i) % sz = i := by
    rw [Nat.add_comm, Nat.add_mul_mod_self_right, Nat.mod_eq_of_lt hi]
  rw [e1, e2]

theorem val_cells {γ : List Nat} {ω : Own} {w : World} {ys : List (List MV)} {u : Value} (h : Val γ ω w (.list ys) u) {sz : Nat} (hsz : 0 < sz) (hy : ∀ y ∈ ys, y.length = sz) :
    ∃ A c news, u = .slice A ys.length c ∧ Cells γ ω w sz ys news ∧ (ys ≠ [] → ∃ b o, A = some ⟨b, o, none⟩ ∧ ∀ (j : Nat) (x : Value), news[j]? = some x → w.cell? ⟨b, o + j, none⟩ = some x) := by
  by_cases hnil : ys = []
  · subst hnil
    obtain ⟨A, cap, rfl⟩ := h.list
    exact ⟨A, cap, [], rfl, ⟨by simp, by simp, by simp, by simp⟩, fun h => absurd rfl h⟩
  · -- the cells, one by one
    have key : ∀ (b o cap : Nat) (us : Nat → Nat → Value), (∀ (j : Nat) (e : List MV), ys[j]? = some e → ∀ (i : Nat) (c : MV), e[i]? = some c → w.cell? ⟨b, o + (j * sz + i), none⟩ = some (us j i) ∧ (us j i).oneCell' = true ∧ Rep γ ω w c (us j i)) →
        u = .slice (some ⟨b, o, none⟩) ys.length cap → ∃ A c news, u = .slice A ys.length c ∧ Cells γ ω w sz ys news ∧ (ys ≠ [] → ∃ b o, A = some ⟨b, o, none⟩ ∧ ∀ (j : Nat) (x : Value), news[j]? = some x → w.cell? ⟨b, o + j, none⟩ = some x) := by
      intro b o cap us hus hu
      have hall : ∀ q, q < ys.length * sz → ∃ (e : List MV) (c : MV), ys[q / sz]? = some e ∧ e[q % sz]? = some c := by
        intro q hq
        have h1 : q / sz < ys.length := Nat.div_lt_of_lt_mul (by rw [Nat.mul_comm]; exact hq)
        refine ⟨ys[q / sz], ?_⟩
        have h2 : q % sz < (ys[q / sz]).length := by rw [hy _ (List.getElem_mem h1)]; exact Nat.mod_lt _ hsz
        exact ⟨(ys[q / sz])[q % sz], List.getElem?_eq_getElem h1, List.getElem?_eq_getElem h2⟩
      refine ⟨_, cap, (List.range (ys.length * sz)).map fun q => us (q / sz) (q % sz), hu, ⟨by simp, hy, ?_, ?_⟩, fun _ => ⟨b, o, rfl, ?_⟩⟩
      · intro v hv
        simp only [List.mem_map, List.mem_range] at hv
        obtain ⟨q, hq, rfl⟩ := hv
        obtain ⟨e, c, h1, h2⟩ := hall q hq
        exact (hus _ e h1 _ c h2).2.1
      · intro j e hj i c hi
        have hjl := (List.getElem?_eq_some_iff.1 hj).1
        have hil : i < sz := by rw [← hy e (List.mem_of_getElem? hj)]; exact (List.getElem?_eq_some_iff.1 hi).1
        exact ⟨us j i, flat_get hsz us _ j i hjl hil, (hus j e hj i c hi).2.2⟩
      · intro q x hq
        obtain ⟨hq1, hq2⟩ := range_map hq
        subst hq2
        obtain ⟨e, c, h1, h2⟩ := hall q hq1
        have := (hus _ e h1 _ c h2).1
        rw [Nat.div_add_mod' q sz] at this
        exact this
    rcases h with h | ⟨o', sz', h⟩
    · cases h with
      | list _ sz0 blk o cap us hcap hω hlt hsz0 hcell hrep =>
        have e0 : sz0 = sz := by
          cases ys with
          | nil => exact absurd rfl hnil
          | cons y r => rw [← hsz0 y (by simp), hy y (by simp)]
        subst e0
        exact key blk o cap us (fun j e hj i c hi => ⟨(hcell j e hj i c hi).1, (hcell j e hj i c hi).2, hrep j e hj i c hi⟩) rfl
      | list0 => exact absurd rfl hnil
    · obtain ⟨blk, cap, hvb, hve⟩ := own_some h (List.length_pos_iff.2 hnil)
      obtain ⟨cap', h1, h2, h3, us, hus⟩ := own_cells h hvb
      have e0 : sz' = sz := by
        cases ys with
        | nil => exact absurd rfl hnil
        | cons y r => rw [← (hus 0 y rfl).1, hy y (by simp)]
      subst e0
      exact key blk 0 cap us (fun j e hj i c hi => by rw [Nat.zero_add]; exact (hus j e hj).2 i c hi) hve

/-! ### append -/
theorem run_app_types {P : Program} {w : World} {T T' ty e e' : TypeId} {A A' : Option Addr} {n c n' c' : Nat} (h : P.underlying T = some (.slice e)) (h' : P.underlying T' = some (.slice e')) :
    (Builtin.append_ #[T, T'] ty #[.slice A n c, .slice A' n' c']).run P w = (Builtin.append_ #[T, T] ty #[.slice A n c, .slice A' n' c']).run P w := by
  simp [Builtin.append_, run_underlying h, run_underlying h']

theorem run_app_nil {P : Program} {w : World} {T ty e : TypeId} {A' : Option Addr} {n' c' : Nat} {A : Option Addr} {c : Nat} (h : P.underlying T = some (.slice e)) (hle : n' ≤ c') :
    (Builtin.append_ #[T, T] ty #[.slice A' n' c', .slice A 0 c]).run P w = (Builtin.append_ #[T, T] ty #[.slice A' n' c', .slice (some ⟨0, 0, none⟩) 0 c]).run P w := by
  cases A <;> simp [Builtin.append_, run_underlying h, Builtin.lenOf, Builtin.firstCells, loadCells, loadCellsFrom, hle]

theorem run_app_room {P : Program} {w : World} (t ty e e' : TypeId) (i : TypeInfo) (ht : P.underlying t = some (.slice e)) (hi : P.info? e = some i)
    (g sLen sCap : Nat) (cur : Array Value) (hg : w.heap[g]? = some (.cells cur e' (0, 0)))
    (a : Addr) (m c : Nat) (news : List Value) (hl : news.length = m * i.size) (hnews : ∀ j u, news[j]? = some u → w.cell? (a.add j) = some u) (h1 : ∀ u ∈ news, u.oneCell' = true)
    (hroom : sLen + m ≤ sCap) (hfit : sLen * i.size + news.length ≤ cur.size) :
    (Builtin.append_ #[t, t] ty #[.slice (some ⟨g, 0, none⟩) sLen sCap, .slice (some a) m c]).run P w =
      .ok (.slice (some ⟨g, 0, none⟩) (sLen + m) sCap) (w.setRow g (cur.toList.take (sLen * i.size) ++ news ++ cur.toList.drop (sLen * i.size + news.length)).toArray) := by
  have hf := run_firstCells_some (P := P) w i.size m a m c news hl hnews
  have hst := run_storeCells_at P g (sLen * i.size) e' news 0 cur w hg (by simpa using hfit) h1
  simp only [Nat.add_zero] at hst
  simp [Builtin.append_, run_underlying ht, sizeOf, typeInfo, hi, Builtin.lenOf, hroom, hf, Addr.add_lit, hst]

theorem run_app {P : Program} {w : World} (t ty e e' : TypeId) (i : TypeInfo) (z : Value) (ht : P.underlying t = some (.slice e)) (hi : P.info? e = some i) (hz : i.zero = some z)
    (hzs : z.cells.size = i.size) (hsz : 0 < i.size)
    (v : Value) (n : Nat) (xs : List Value) (hown : w.ownsRow 0 e' i.size v n xs)
    (a : Addr) (m c : Nat) (news : List Value) (hl : news.length = m * i.size) (hnews : ∀ j u, news[j]? = some u → w.cell? (a.add j) = some u) (h1 : ∀ u ∈ news, u.oneCell' = true)
    (h63 : n + m ≤ maxLen) (hbytes : (n + m) * i.bytes ≤ 140737488355328) :
    ∃ v' w' e'', (Builtin.append_ #[t, t] ty #[v, .slice (some a) m c]).run P w = .ok v' w' ∧ w'.ownsRow 0 e'' i.size v' (n + m) (xs ++ news) ∧ w.grownBy w' v.ownBlock ∧
      (∀ b, v'.ownBlock = some b → v.ownBlock = some b ∨ w.heap.size ≤ b) := by
  by_cases hroom : ∃ g cap, v = .slice (some ⟨g, 0, none⟩) n cap ∧ n + m ≤ cap
  · obtain ⟨g, cap, rfl, hr⟩ := hroom
    rcases hown.2 with ⟨h0, _⟩ | ⟨g', cap', cur, heq, hbg, hg, hnc, hcm, hcs, htake⟩
    · exact absurd h0 (by simp)
    · injection heq with h2 _ h3
      injection h2 with h2; injection h2 with h2 _ _
      subst h2; subst h3
      have hfit : n * i.size + news.length ≤ cur.size := by rw [hl, hcs, ← Nat.add_mul]; exact Nat.mul_le_mul_right _ hr
      have hrun := run_app_room (P := P) t ty e e' i ht hi g n cap cur hg a m c news hl hnews h1 hr hfit
      have hlen : (xs ++ news).length = (n + m) * i.size := by rw [List.length_append, hown.1, hl, Nat.add_mul]
      refine ⟨_, _, e', hrun, ⟨hlen, .inr ⟨g, cap, _, rfl, hbg, setRow_heap w g cur _ e' _ hg, hr, hcm, ?_, ?_⟩⟩, ⟨rfl, rfl, rfl, by simp, fun k _ hk => setRow_other w g k _ (fun e => hk (by simp [Value.ownBlock, e]))⟩, fun b hb => .inl hb⟩
      · simp only [List.size_toArray, List.length_append, List.length_take, List.length_drop, Array.length_toList]
        omega
      · rw [htake, ← hlen]
        exact List.take_left
  · -- a new row, whatever the old one's type says
    have hown2 : ∃ w0 : World, True := ⟨w, trivial⟩
    rcases hown.2 with ⟨rfl, rfl⟩ | ⟨g, cap, cur, rfl, hbg, hg, hnc, hcm, hcs, htake⟩
    · have hx : xs = [] := List.eq_nil_of_length_eq_zero (by simpa using hown.1)
      subst hx
      obtain ⟨v', w', hr, h2, h3, h4⟩ := run_append_own (P := P) w 0 t ty e i z i.size i.bytes ht hi hz rfl rfl hzs hsz (.slice none 0 0) 0 [] (World.ownsRow_nil w 0 e i.size) a m c news hl hnews h1 h63 hbytes (Nat.zero_le _)
      refine ⟨v', w', e, hr, h2, h3, fun b hb => .inr ?_⟩
      rcases h2.2 with ⟨rfl, _⟩ | ⟨g, cap, cur, rfl, _, hg, _⟩
      · simp [Value.ownBlock] at hb
      · simp [Value.ownBlock] at hb
        subst hb
        rcases Nat.lt_or_ge g w.heap.size with hlt | hge
        · exfalso
          -- the value is new: of an elder block nothing is told; it is the one that append made
          have hn : ¬ (0 + m = 0) := by
            intro h0
            have hm : m = 0 := by omega
            subst hm
            have := h4.2 ⟨rfl, rfl⟩
            exact absurd this (by simp)
          have hmpos : 0 < m := by omega
          have hrn := run_append_nil (P := P) w t ty e i z ht hi hz a m c news hl hnews hmpos (by simp only [maxLen] at h63; omega) (by simp only [Nat.zero_add] at hbytes; omega)
          rw [hr] at hrn
          injection hrn with hv _
          injection hv with hv _ _
          injection hv with hv
          injection hv with hv _ _
          omega
        · exact hge
    · have hnr : cap < n + m := by
        rcases Nat.lt_or_ge cap (n + m) with h | h
        · exact h
        · exact absurd ⟨g, cap, rfl, h⟩ hroom
      have holds : ∀ j u, xs[j]? = some u → w.cell? ((⟨g, 0, none⟩ : Addr).add j) = some u := hown.cells (g := g) rfl
      have hr := run_append_grow (P := P) w t ty e i z ht hi hz ⟨g, 0, none⟩ n cap xs hown.1 holds a m c news hl hnews hnr (by simp only [maxLen] at h63; omega) (growslice_fits hnr hbytes)
      have hge := grownCap_ge w (n + m) cap e
      have hcm' : grownCap w (n + m) cap e ≤ maxLen := grownCap_le_maxLen w (n + m) cap e h63
      have hlen : (xs ++ news).length = (n + m) * i.size := by rw [List.length_append, hown.1, hl, Nat.add_mul]
      refine ⟨_, _, e, hr, ⟨hlen, .inr ⟨w.heap.size, _, _, rfl, Nat.zero_le _, heap_alloc_new w.drew _, hge, hcm', ?_, ?_⟩⟩, ⟨rfl, rfl, rfl, by simp, fun k hk _ => heap_alloc_old w.drew _ hk⟩, fun b hb => .inr ?_⟩
      · simp only [Array.size_append, List.size_toArray, size_zeroCells, hzs, hown.1, hl, ← Nat.add_mul]
        congr 1
        omega
      · simp only [Array.toList_append, List.append_assoc]
        rw [← List.append_assoc, ← hlen]
        exact List.take_left
      · simp [Value.ownBlock] at hb; omega

/-- What a place holds that is appended to. -/
def ownPl (st : St) : Operand → Option Place
  | .tmp t => match lk st.v t with
    | .own _ _ => some (.slot t)
    | .al p => some p
    | _ => none
  | _ => none

/-- Is an operand known as a nil slice? -/
def shNil (st : St) : Operand → Bool
  | .tmp t => match lk st.v t with
    | .sh .nil => true
    | _ => false
  | .const v => isNilC (.const v)
  | _ => false

def bytesT (P : Program) (T : TypeId) : Nat := match tiOf P T with | some ti => ti.bytes | none => 0

def appP (P : Program) (st : St) (d : Nat) (c : Call) (K : St → Prop) : Prop :=
  match c.args.toList, c.argTypes.toList with
  | [s, x], [T, T'] => match kdOf P T, kdOf P T' with
    | .slice e, .slice _ => match ownPl st s with
      | some p => match st.at p with
        | .own sz (.list es) => match opv st x with
          | some (.list ys) => sz = szOf P e ∧ 0 < sz ∧ (∀ y ∈ ys, y.length = sz) ∧ es.length + ys.length ≤ 1000000000 ∧ bytesT P e ≤ 100000 ∧ K ((st.spend p).put d (.own sz (.list (es ++ ys))))
          | _ => False
        | _ => False
      | none => match shNil st s, opv st x with
        | true, some (.list ys) => 0 < szOf P e ∧ (∀ y ∈ ys, y.length = szOf P e) ∧ ys.length ≤ 1000000000 ∧ bytesT P e ≤ 100000 ∧ K (st.put d (.own (szOf P e) (.list ys)))
        | _, _ => False
    | _, _ => False
  | _, _ => False

theorem zerosOf_len : ∀ {vs : List Value} {l : List MV}, zerosOf vs = some l → vs.length = l.length
  | [], l, h => by simp [zerosOf] at h; subst h; rfl
  | v :: r, l, h => by
    unfold zerosOf at h
    split at h
    · rename_i m l' hm hl; injection h with h; subst h; simp [zerosOf_len hl]
    · exact absurd h (by simp)

theorem ownPl_ok {γ : List Nat} {ω : Own} {w : World} {nt : Nat} {st : St} {a : Act} (h : Rel γ ω w nt st a) {x : Operand} {p : Place} (hp : ownPl st x = some p) {sz : Nat} {m : MV} (hat : st.at p = .own sz m) : p.cur γ a.tmps w (a.eval x) := by
  cases x with
  | tmp t =>
    simp only [ownPl] at hp
    split at hp
    · injection hp with hp; subst hp; exact rfl
    · rename_i q hc
      injection hp with hp; subst hp
      have := h.slots t
      rw [hc] at this
      exact this.2
    · exact absurd hp (by simp)
  | _ => simp [ownPl] at hp

/-- Cells appended to a row, whoever holds it. -/
theorem app_run {P : Program} {γ : List Nat} {ω : Own} {w : World} {T T' ty e e2 : TypeId} (hd1 : P.underlying T = some (.slice e)) (hd2 : P.underlying T' = some (.slice e2)) {sz : Nat} (hsz : sz = szOf P e) (hpos : 0 < sz) (hby : bytesT P e ≤ 100000)
    {es ys : List (List MV)} (hlen : es.length + ys.length ≤ 1000000000) (hyl : ∀ y ∈ ys, y.length = sz) {vs vx : Value} {e' : TypeId} {xs : List Value} (hr : w.ownsRow 0 e' sz vs es.length xs) (hcl : Cells γ ω w sz es xs) (hval : Val γ ω w (.list ys) vx) :
    ∃ v' w' e'' news, (Builtin.append_ #[T, T'] ty #[vs, vx]).run P w = .ok v' w' ∧ w'.ownsRow 0 e'' sz v' (es ++ ys).length (xs ++ news) ∧ Cells γ ω w sz (es ++ ys) (xs ++ news) ∧ w.grownBy w' vs.ownBlock ∧ (∀ b, v'.ownBlock = some b → (vs.ownBlock = some b ∨ w.heap.size ≤ b) ∧ b < w'.heap.size) := by
  obtain ⟨ti, hti, htsz⟩ := szOf_ne (P := P) (T := e) (by omega)
  have hT := ty_of hti
  obtain ⟨i, z, hi, hisz, hib, hiz, hz1, hz2, hz3⟩ := hT.info
  have hbt : bytesT P e = ti.bytes := by simp [bytesT, hti]
  have hzs : z.cells.size = i.size := by
    have := zerosOf_len hz1
    rw [Array.length_toList] at this; omega
  have hszi : sz = i.size := by omega
  subst hszi
  obtain ⟨A, cc, news, hu, hcn, hA⟩ := val_cells hval hpos hyl
  have hvs : ∃ A' c', vs = .slice A' es.length c' ∧ es.length ≤ c' := by
    rcases hr.2 with ⟨h1, h0⟩ | ⟨g, cap, cur, h1, _, _, h2, _⟩
    · exact ⟨none, 0, by rw [h1, h0], by omega⟩
    · exact ⟨_, cap, h1, h2⟩
  obtain ⟨A', c', hve, hle⟩ := hvs
  have hadr : ∃ ad : Addr, (∀ (j : Nat) (u : Value), news[j]? = some u → w.cell? (ad.add j) = some u) ∧
      (Builtin.append_ #[T, T] ty #[vs, vx]).run P w = (Builtin.append_ #[T, T] ty #[vs, .slice (some ad) ys.length cc]).run P w := by
    by_cases hny : ys = []
    · subst hny
      refine ⟨⟨0, 0, none⟩, fun j u hj => ?_, ?_⟩
      · have : news = [] := List.eq_nil_of_length_eq_zero (by simpa using hcn.len)
        rw [this] at hj; simp at hj
      · rw [hve, hu]; exact run_app_nil hd1 hle
    · obtain ⟨b, o, rfl, hcell⟩ := hA hny
      exact ⟨⟨b, o, none⟩, fun j u hj => by rw [Addr.add_lit]; exact hcell j u hj, by rw [hu]⟩
  obtain ⟨ad, hcell, heq⟩ := hadr
  have hb2 : (es.length + ys.length) * i.bytes ≤ 140737488355328 := by
    have h1 : i.bytes ≤ 100000 := by omega
    have : (es.length + ys.length) * i.bytes ≤ 1000000000 * 100000 := Nat.mul_le_mul hlen h1
    omega
  obtain ⟨v', w', e'', hrun, hown', hgr, hblk⟩ := run_app (P := P) (w := w) T ty e e' i z hd1 hi hiz hzs hpos vs es.length xs hr ad ys.length cc news hcn.len hcell hcn.one (by simp only [maxLen]; omega) hb2
  refine ⟨v', w', e'', news, ?_, by rw [List.length_append]; exact hown', cells_append hcl hcn, hgr, fun b hb => ⟨hblk b hb, ?_⟩⟩
  · have e2 : (Builtin.append_ #[T, T'] ty #[vs, vx]).run P w = (Builtin.append_ #[T, T] ty #[vs, vx]).run P w := by
      rw [hve, hu]; exact run_app_types hd1 hd2
    rw [e2, heq]; exact hrun
  · rcases hown'.2 with ⟨h1, _⟩ | ⟨g, cap, cur, h1, _, hg, _⟩
    · rw [h1] at hb; simp [Value.ownBlock] at hb
    · rw [h1] at hb; simp [Value.ownBlock] at hb; subst hb
      exact (Array.getElem?_eq_some_iff.1 hg).1

theorem shNil_ok {γ : List Nat} {ω : Own} {w : World} {nt : Nat} {st : St} {a : Act} (h : Rel γ ω w nt st a) {x : Operand} (hx : shNil st x = true) : a.eval x = .slice none 0 0 := by
  cases x with
  | tmp t =>
    simp only [shNil] at hx
    split at hx
    · rename_i hc
      have hr : Rep γ ω w .nil (a.eval (.tmp t)) := slot_rep h t hc
      generalize a.eval (.tmp t) = v at hr ⊢
      cases hr; rfl
    · exact absurd hx (by simp)
  | const v =>
    simp only [shNil] at hx
    unfold isNilC at hx
    split at hx
    · rename_i heq; cases heq; rfl
    · exact absurd hx (by simp)
  | _ => simp [shNil] at hx

theorem app_ok {P : Program} {γ : List Nat} {ω : Own} {w : World} {nt : Nat} {st : St} {a : Act} (h : Rel γ ω w nt st a) {d : Nat} (hd : d < nt) {c : Call} {K : St → Prop} (hx : appP P st d c K) (ty : TypeId) :
    ∃ v w' , (Builtin.append_ c.argTypes ty (c.args.map a.eval)).run P w = .ok v w' ∧ ∃ γ' ω' st', Chg NotOuter γ ω w γ' ω' w' ∧ Rel γ' ω' w' nt st' (a.put (some d) v) ∧ K st' := by
  obtain ⟨callee, args, argTypes⟩ := c
  unfold appP at hx
  simp only at hx ⊢
  split at hx
  · rename_i s x T T' hargs hat
    have hargs' : args = #[s, x] := by have := congrArg List.toArray hargs; simpa using this
    have hat' : argTypes = #[T, T'] := by have := congrArg List.toArray hat; simpa using this
    subst hargs'; subst hat'
    have e1 : #[s, x].map a.eval = #[a.eval s, a.eval x] := by simp
    rw [e1]
    split at hx
    · rename_i e e2 hk hk2
      obtain ⟨d1, hd1, hkd1⟩ := und_of_kd hk (by simp)
      have := tk_slice hkd1; subst this
      obtain ⟨d2, hd2, hkd2⟩ := und_of_kd hk2 (by simp)
      have := tk_slice hkd2; subst this
      split at hx
      · rename_i p hp
        split at hx
        · rename_i sz es hat
          split at hx
          · rename_i ys hys
            obtain ⟨hsz, hpos, hyl, hlen, hby, hK⟩ := hx
            have hcur := ownPl_ok h hp hat
            have hown := cur_own h hat hcur
            cases hown with
            | list _ _ e' xs hr hcl ho =>
              obtain ⟨v', w', e'', news, hrun, hown', hcells, hgr, hblk⟩ := app_run (P := P) (γ := γ) (ω := ω) (ty := ty) hd1 hd2 hsz hpos hby hlen hyl hr hcl (h.val hys)
              let ω' : Own := fun b => if v'.ownBlock = some b then some (.slot d) else ω b
              have hpo : ∀ b, (a.eval s).ownBlock = some b → ω b = some p.owner ∧ b < w.heap.size := ho
              have hnew : ∀ b, v'.ownBlock = some b → (ω b = some p.owner ∧ b < w.heap.size) ∨ w.heap.size ≤ b := fun b hb => by
                rcases (hblk b hb).1 with h1 | h1
                · exact .inl (hpo b h1)
                · exact .inr h1
              have hkeepb : ∀ b, b < w.heap.size → ω b ≠ some p.owner → w'.heap[b]? = w.heap[b]? := fun b hb hn => hgr.block b hb (fun e => hn (hpo b e.symm).1)
              have hcg : Chg (fun x => x = p.owner) γ ω w γ ω' w' := by
                refine ⟨hgr.os, hgr.tape, hgr.output, hgr.size, fun _ _ h => h, fun b hb h0 => ⟨hkeepb b hb (by rw [h0]; simp), ?_⟩, fun b o hb h0 hn => ⟨hkeepb b hb (by rw [h0]; intro e; injection e with e; exact hn e), ?_⟩⟩
                · simp only [ω']
                  split
                  · rename_i hvb
                    rcases hnew b hvb with ⟨h1, _⟩ | h1
                    · rw [h0] at h1; exact absurd h1 (by simp)
                    · omega
                  · exact h0
                · simp only [ω']
                  split
                  · rename_i hvb
                    rcases hnew b hvb with ⟨h1, _⟩ | h1
                    · rw [h0] at h1; injection h1 with h1; exact absurd h1 hn
                    · omega
                  · exact h0
              have hlt' : ∀ b, w'.heap.size ≤ b → ω' b = none := by
                intro b hb
                simp only [ω']
                split
                · rename_i hvb; have := (hblk b hvb).2; omega
                · exact h.lt b (Nat.le_trans hgr.size hb)
              have hne : p.owner ≠ .outer := by cases p <;> simp [Place.owner]
              have hR := h.spend hat hcg hlt'
              refine ⟨v', w', hrun, γ, ω', (st.spend p).put d (.own sz (.list (es ++ ys))), hcg.mono (fun o ho => by rw [ho]; exact hne), hR.put hd ?_, hK⟩
              show OwnRep γ ω' w' (.slot d) sz (.list (es ++ ys)) v'
              exact .list _ _ v' e'' (xs ++ news) hown' (hcells.chg hcg) (fun b hb => ⟨by simp [ω', hb], (hblk b hb).2⟩)
          · exact hx.elim
        · exact hx.elim
      · split at hx
        · rename_i ys hnil hys
          obtain ⟨hpos, hyl, hlen, hby, hK⟩ := hx
          have hvs := shNil_ok h hnil
          have hr : w.ownsRow 0 e (szOf P e) (a.eval s) ([] : List (List MV)).length [] := by rw [hvs]; exact World.ownsRow_nil w 0 e (szOf P e)
          have hcl0 : Cells γ ω w (szOf P e) [] [] := ⟨by simp, by simp, by simp, by simp⟩
          obtain ⟨v', w', e'', news, hrun, hown', hcells, hgr, hblk⟩ := app_run (P := P) (γ := γ) (ω := ω) (ty := ty) hd1 hd2 rfl hpos hby (by simpa using hlen) hyl hr hcl0 (h.val hys)
          have hob : (a.eval s).ownBlock = none := by rw [hvs]; rfl
          let ω' : Own := fun b => if v'.ownBlock = some b then some (.slot d) else ω b
          have hnew : ∀ b, v'.ownBlock = some b → w.heap.size ≤ b := fun b hb => by
            rcases (hblk b hb).1 with h1 | h1
            · rw [hob] at h1; exact absurd h1 (by simp)
            · exact h1
          have hcg : Chg (fun _ => False) γ ω w γ ω' w' := by
            refine ⟨hgr.os, hgr.tape, hgr.output, hgr.size, fun _ _ h => h, fun b hb h0 => ⟨hgr.block b hb (by rw [hob]; simp), ?_⟩, fun b o hb h0 _ => ⟨hgr.block b hb (by rw [hob]; simp), ?_⟩⟩
            · simp only [ω']; rw [if_neg (fun e => by have := hnew b e; omega)]; exact h0
            · simp only [ω']; rw [if_neg (fun e => by have := hnew b e; omega)]; exact h0
          have hlt' : ∀ b, w'.heap.size ≤ b → ω' b = none := by
            intro b hb
            simp only [ω']
            split
            · rename_i hvb; have := (hblk b hvb).2; omega
            · exact h.lt b (Nat.le_trans hgr.size hb)
          refine ⟨v', w', hrun, γ, ω', st.put d (.own (szOf P e) (.list ys)), hcg.mono (fun _ h => h.elim), (h.grow hcg hlt').put hd ?_, hK⟩
          show OwnRep γ ω' w' (.slot d) (szOf P e) (.list ys) v'
          have hown2 := hown'
          simp only [List.nil_append] at hown2 hcells
          exact .list _ _ v' e'' news hown2 (hcells.chg hcg) (fun b hb => ⟨by simp [ω', hb], (hblk b hb).2⟩)
        · exact hx.elim
    · exact hx.elim
  · exact hx.elim

end Go.Pv

end M10
section M11
/- A library of this session: regions, statements, contracts. -/
set_option linter.unusedVariables false
set_option linter.unusedSimpArgs false
namespace Go.Pv

/-! ### Values without pointers to boxes -/
mutual
def np : MV → Bool
  | .agg cs => npL cs
  | .tup cs => npL cs
  | .list es => npLL es
  | .fn _ cs => npL cs
  | .cptr cs _ => npL cs
  | .map m => npE m
  | .ifc _ v => np v
  | .ptr _ _ => false
  | _ => true
def npL : List MV → Bool
  | [] => true
  | m :: r => np m && npL r
def npLL : List (List MV) → Bool
  | [] => true
  | e :: r => npL e && npLL r
def npE : List (MKey × MV) → Bool
  | [] => true
  | (_, v) :: r => np v && npE r
end

theorem npL_get : ∀ {cs : List MV}, npL cs = true → ∀ (i : Nat) (c : MV), cs[i]? = some c → np c = true
  | [], _, i, c, hi => by simp at hi
  | m :: r, h, i, c, hi => by
    simp only [npL, Bool.and_eq_true] at h
    cases i with
    | zero => simp at hi; subst hi; exact h.1
    | succ i => exact npL_get h.2 i c (by simpa using hi)
theorem npLL_get : ∀ {es : List (List MV)}, npLL es = true → ∀ (i : Nat) (e : List MV), es[i]? = some e → npL e = true
  | [], _, i, c, hi => by simp at hi
  | m :: r, h, i, c, hi => by
    simp only [npLL, Bool.and_eq_true] at h
    cases i with
    | zero => simp at hi; subst hi; exact h.1
    | succ i => exact npLL_get h.2 i c (by simpa using hi)
theorem npE_get : ∀ {es : List (MKey × MV)}, npE es = true → ∀ (i : Nat) (e : MKey × MV), es[i]? = some e → np e.2 = true
  | [], _, i, c, hi => by simp at hi
  | (k, m) :: r, h, i, c, hi => by
    simp only [npE, Bool.and_eq_true] at h
    cases i with
    | zero => simp at hi; subst hi; exact h.1
    | succ i => exact npE_get h.2 i c (by simpa using hi)

@[simp] theorem npLL_map {α : Type} (f : α → List MV) (l : List α) : npLL (l.map f) = l.all (fun x => npL (f x)) := by
  induction l with
  | nil => rfl
  | cons x r ih => simp [npLL, ih]
@[simp] theorem npL_map {α : Type} (f : α → MV) (l : List α) : npL (l.map f) = l.all (fun x => np (f x)) := by
  induction l with
  | nil => rfl
  | cons x r ih => simp [npL, ih]
@[simp] theorem npLL_append (a b : List (List MV)) : npLL (a ++ b) = (npLL a && npLL b) := by
  induction a with
  | nil => simp [npLL]
  | cons x r ih => simp [npLL, ih, Bool.and_assoc]
@[simp] theorem npE_map {α : Type} (f : α → MKey × MV) (l : List α) : npE (l.map f) = l.all (fun x => np (f x).2) := by
  induction l with
  | nil => rfl
  | cons x r ih => simp [npE, ih]

theorem Rep.np {γ γ' : List Nat} {ω : Own} {w : World} {m : MV} {v : Value} (h : Rep γ ω w m v) (hn : Go.Pv.np m = true) : Rep γ' ω w m v := by
  induction h with
  | bool b => exact .bool b
  | int k n => exact .int k n
  | str s => exact .str s
  | agg cs vs hl _ h1 ih => exact .agg cs vs hl (fun i c v hc hv => ih i c v hc hv (npL_get (by simpa [Go.Pv.np] using hn) i c hc)) h1
  | tup cs vs hl _ ih => exact .tup cs vs hl (fun i c v hc hv => ih i c v hc hv (npL_get (by simpa [Go.Pv.np] using hn) i c hc))
  | list es sz blk o cap us hcap hω hlt hsz hcell _ ih => exact .list es sz blk o cap us hcap hω hlt hsz hcell (fun j e hj i c hi => ih j e hj i c hi (npL_get (npLL_get (by simpa [Go.Pv.np] using hn) j e hj) i c hi))
  | list0 a cap => exact .list0 a cap
  | nil => exact .nil
  | fn f cs vs hl _ ih => exact .fn f cs vs hl (fun i c v hc hv => ih i c v hc hv (npL_get (by simpa [Go.Pv.np] using hn) i c hc))
  | nilfn => exact .nilfn
  | ptr b off blk hb => simp [Go.Pv.np] at hn
  | cptr cs off blk o us hω hlt hcell _ ih => exact .cptr cs off blk o us hω hlt hcell (fun i c hi => ih i c hi (npL_get (by simpa [Go.Pv.np] using hn) i c hi))
  | nilptr => exact .nilptr
  | map m blk es clock hω hb hl hk _ hlt hbn hnd ih => exact .map m blk es clock hω hb hl hk (fun i x e hx he => ih i x e hx he (npE_get (by simpa [Go.Pv.np] using hn) i x hx)) hlt hbn hnd
  | map0 => exact .map0
  | ifc t c v _ ih => exact .ifc t c v (ih (by simpa [Go.Pv.np] using hn))
  | nilifc => exact .nilifc

/-! ### Contracts of functions that leave everything as it was -/
/-- What a function hands back, one item a result: some sz: a row (or map) of its own. -/
abbrev Res := List (Option Nat × MV)

def ResI (γ : List Nat) (ω : Own) (w : World) (x : Option Nat × MV) (v : Value) : Prop :=
  match x.1 with
  | none => Rep γ ω w x.2 v
  | some sz => OwnRep γ ω w .res sz x.2 v

def ResRep (γ : List Nat) (ω : Own) (w : World) (r : Res) (v : Value) : Prop :=
  match r with
  | [x] => ResI γ ω w x v
  | xs => ∃ vs : List Value, v = .tuple vs.toArray ∧ vs.length = xs.length ∧ ∀ (i : Nat) (x : Option Nat × MV) (u : Value), xs[i]? = some x → vs[i]? = some u → ResI γ ω w x u

/-- THE CONTRACT: called with these values the function returns these; all that was there stays. -/
def Spec (P : Program) (f : FuncId) (args : List MV) (r : Res) : Prop :=
  (∀ (as : Array Value) (w : World), (callFunc f as).run P w = .ok (.enter f as) w) ∧ ∀ (γ : List Nat) (ω : Own) (w : World) (vs : List Value), vs.length = args.length → (∀ (i : Nat) (c : MV) (v : Value), args[i]? = some c → vs[i]? = some v → Rep γ ω w c v) →
    (∀ b, w.heap.size ≤ b → ω b = none) → (∀ b, ω b ≠ some .res) →
    Calls P f vs.toArray w fun e w' => ∃ v ω', e = .returned v ∧ Chg (fun _ => False) γ ω w γ ω' w' ∧ (∀ b, w'.heap.size ≤ b → ω' b = none) ∧ (∀ b, b < w.heap.size → ω' b = ω b) ∧
      (∀ b, w.heap.size ≤ b → ω' b = none ∨ ω' b = some .outer ∨ ω' b = some .res) ∧ ResRep γ ω' w' r v

/-! ### A call in a frame -/
def Ct.shared : Ct → Bool
  | .own _ _ => false
  | .al _ => false
  | _ => true

/-- The places whose rows are lent to a call. -/
def lent (st : St) : List Operand → List Place
  | [] => []
  | x :: r => match ownPl st x with
    | some p => p :: lent st r
    | none => lent st r

def flatM : MV → Bool
  | .bool _ | .int _ _ | .str _ | .nil | .nilptr | .nilfn | .nilifc => true
  | .ifc _ (.int _ _) => true
  | _ => false

def flatL : List MV → Bool
  | [] => true
  | m :: r => flatM m && flatL r

def flatV : MV → Bool
  | .agg cs => flatL cs
  | m => flatM m

def flatR : Res → Bool
  | [] => true
  | (none, m) :: r => flatV m && flatR r
  | (some _, m) :: r => false

def resC : Res → Ct
  | [(none, m)] => .sh m
  | [(some sz, m)] => .own sz m
  | xs => .tupc xs

/-- Which function does an operand name, and what has it captured? -/
def fnOf (st : St) : Operand → Option (FuncId × List MV)
  | .func f => some (f, [])
  | .tmp t => match lk st.v t with
    | .sh (.fn f cs) => some (f, cs)
    | _ => none
  | _ => none

/-- A call of a function with a contract: rows may be lent, where what comes back is flat. -/
def callP (P : Program) (st : St) (dst : Option Tmp) (f : Operand) (xs : List Operand) (K : St → Prop) : Prop :=
  match fnOf st f with
  | none => False
  | some (g, cs) => match opvs st xs with
    | none => False
    | some ms => (∃ r, Spec P g (ms ++ cs) r ∧ flatR r = true ∧ K (putO st dst (resC r))) ∨
      (match shvs (retOs st xs) xs with
        | some ms => ∃ r ms', (ms' = ms.map MV.top ∨ ms' = ms) ∧ Spec P g (ms' ++ cs) r ∧ K (putO (retOs st xs) dst (resC r))
        | none => False)

theorem flatM_rep {γ γ' : List Nat} {ω ω' : Own} {w w' : World} {m : MV} {v : Value} (hf : flatM m = true) (h : Rep γ ω w m v) : Rep γ' ω' w' m v := by
  cases h with
  | bool b => exact .bool b
  | int k n => exact .int k n
  | str s => exact .str s
  | nil => exact .nil
  | nilptr => exact .nilptr
  | nilfn => exact .nilfn
  | nilifc => exact .nilifc
  | ifc t c v hc =>
    cases hc with
    | int k n => exact .ifc t _ _ (.int k n)
    | _ => simp [flatM] at hf
  | _ => simp [flatM] at hf

theorem flatL_get : ∀ {cs : List MV}, flatL cs = true → ∀ (i : Nat) (c : MV), cs[i]? = some c → flatM c = true
  | [], _, i, c, hi => by simp at hi
  | m :: r, hf, i, c, hi => by
    simp only [flatL, Bool.and_eq_true] at hf
    cases i with
    | zero => simp at hi; subst hi; exact hf.1
    | succ i => exact flatL_get hf.2 i c (by simpa using hi)

theorem flatV_rep {γ γ' : List Nat} {ω ω' : Own} {w w' : World} {m : MV} {v : Value} (hf : flatV m = true) (h : Rep γ ω w m v) : Rep γ' ω' w' m v := by
  cases h with
  | agg cs vs hl hr h1 => exact .agg cs vs hl (fun i c v hc hv => flatM_rep (flatL_get hf i c hc) (hr i c v hc hv)) h1
  | bool b => exact .bool b
  | int k n => exact .int k n
  | str s => exact .str s
  | nil => exact .nil
  | nilptr => exact .nilptr
  | nilfn => exact .nilfn
  | nilifc => exact .nilifc
  | ifc t c v hc => exact flatM_rep hf (.ifc t c v hc)
  | _ => simp [flatV, flatM] at hf

theorem flatR_get : ∀ {r : Res}, flatR r = true → ∀ (i : Nat) (x : Option Nat × MV), r[i]? = some x → x.1 = none ∧ flatV x.2 = true
  | [], _, i, x, hi => by simp at hi
  | (none, m) :: r, hf, i, x, hi => by
    simp only [flatR, Bool.and_eq_true] at hf
    cases i with
    | zero => simp at hi; subst hi; exact ⟨rfl, hf.1⟩
    | succ i => exact flatR_get hf.2 i x (by simpa using hi)
  | (some sz, m) :: r, hf, i, x, hi => by simp [flatR] at hf

/-- What a call hands back, as a slot's content. -/
theorem resC_ok {γ γ' : List Nat} {ω ω' : Own} {w w' : World} {r : Res} {v : Value} (h : ResRep γ ω w r v) {st : St} {tmps : Array Value} {o : Owner}
    (hi : ∀ (i : Nat) (x : Option Nat × MV) (u : Value), r[i]? = some x → ResI γ ω w x u → match x.1 with | none => Rep γ' ω' w' x.2 u | some sz => OwnRep γ' ω' w' o sz x.2 u) : CtRep γ' ω' w' st tmps o (resC r) v := by
  match r, h, hi with
  | [], h, hi =>
    obtain ⟨vs, h1, h2, h3⟩ := h
    exact ⟨vs, h1, h2, fun i c u hc hu => by simp at hc⟩
  | [(none, m)], h, hi => exact hi 0 (none, m) v rfl h
  | [(some sz, m)], h, hi => exact hi 0 (some sz, m) v rfl h
  | x :: y :: q, h, hi =>
    obtain ⟨vs, h1, h2, h3⟩ := h
    have : resC (x :: y :: q) = .tupc (x :: y :: q) := by
      obtain ⟨a, b⟩ := x; cases a <;> rfl
    rw [this]
    exact ⟨vs, h1, h2, fun i c u hc hu => hi i c u hc (h3 i c u hc hu)⟩

/-- One call: with a chosen set of rows lent. -/
theorem call_core {P : Program} {γ : List Nat} {ω : Own} {w : World} {nt : Nat} {st : St} {a : Act} (h : Rel γ ω w nt st a) {g : FuncId} {args : List MV} {r : Res} (hs : Spec P g args r) (us : List Value) (hl : us.length = args.length) (d : Option Tmp) (hd : ∀ t, d = some t → t < nt)
    (lo : Owner → Bool) (hflat : (∃ o, lo o = true) → flatR r = true)
    (hargs : ∀ (i : Nat) (c : MV) (v : Value), args[i]? = some c → us[i]? = some v → Rep γ (fun b => match ω b with | none => none | some o => if lo o then none else some .outer) w c v) :
    Calls P g us.toArray w fun e w' => ∃ v ω', e = .returned v ∧ Chg NotOuter γ ω w γ ω' w' ∧ Rel γ ω' w' nt (putO st d (resC r)) (a.put d v) := by
  let ωc : Own := fun b => match ω b with | none => none | some o => if lo o then none else some .outer
  have hltc : ∀ b, w.heap.size ≤ b → ωc b = none := fun b hb => by simp [ωc, h.lt b hb]
  have hres : ∀ b, ωc b ≠ some .res := by
    intro b
    simp only [ωc]
    split
    · simp
    · split <;> simp
  refine (hs.2 γ ωc w us hl hargs hltc hres).mono ?_
  rintro e w' ⟨v, ω', he, hc, hlt', hold, hnew, hr⟩
  let own : Owner := match d with | some t => .slot t | none => .outer
  let ω2 : Own := fun b => if b < w.heap.size then ω b else if ω' b = some .res then some own else ω' b
  have heap : ∀ b, b < w.heap.size → w'.heap[b]? = w.heap[b]? := by
    intro b hb
    cases hω : ωc b with
    | none => exact (hc.none b hb hω).1
    | some o => exact (hc.keep b o hb hω (fun h => h)).1
  have hc2 : Chg (fun _ => False) γ ω w γ ω2 w' := by
    refine ⟨hc.os, hc.tape, hc.output, hc.size, fun _ _ h => h, fun b hb h0 => ⟨heap b hb, ?_⟩, fun b o hb h0 _ => ⟨heap b hb, ?_⟩⟩
    · simp only [ω2, if_pos hb]; exact h0
    · simp only [ω2, if_pos hb]; exact h0
  have hlt2 : ∀ b, w'.heap.size ≤ b → ω2 b = none := by
    intro b hb
    have hb' : ¬ b < w.heap.size := by have := hc.size; omega
    simp only [ω2, if_neg hb', hlt' b hb]
    simp
  have hR := h.grow hc2 hlt2
  refine ⟨v, ω2, he, hc2.mono (fun _ h => h.elim), hR.putO hd ?_⟩
  intro t ht
  subst ht
  -- what is shared for the callee is shared here, unless it was lent
  have hsh : (∀ o, lo o = false) → ∀ b, ω' b = none → ω2 b = none := by
    intro hno b hb
    simp only [ω2]
    split
    · rename_i hlt
      have h1 : ωc b = none := by rw [← hold b hlt]; exact hb
      simp only [ωc] at h1
      split at h1
      · assumption
      · rename_i o ho; rw [hno o] at h1; simp at h1
    · rw [hb]; simp
  refine resC_ok hr (fun i x u hx hu => ?_)
  obtain ⟨x1, x2⟩ := x
  by_cases hfl : ∃ o, lo o = true
  · obtain ⟨e1, e2⟩ := flatR_get (hflat hfl) i _ hx
    simp only at e1; subst e1
    exact flatV_rep e2 hu
  · have hno : ∀ o, lo o = false := fun o => by
      cases ho : lo o with
      | false => rfl
      | true => exact absurd ⟨o, ho⟩ hfl
    cases x1 with
    | none => exact Rep.relabel (hsh hno) hu
    | some sz =>
      show OwnRep γ ω2 w' (.slot t) sz x2 u
      have hu' : OwnRep γ ω' w' .res sz x2 u := hu
      have hown : ∀ b, ω' b = some .res → ω2 b = some (.slot t) := by
        intro b hb
        simp only [ω2]
        split
        · rename_i hlt
          have h1 : ωc b = some .res := by rw [← hold b hlt]; exact hb
          exact absurd h1 (hres b)
        · first | rfl | (simp only [hb, if_true]; rfl)
      cases hu' with
      | list es _ e2 xs hr2 hcl ho =>
        refine .list sz es u e2 xs hr2 ⟨hcl.len, hcl.wid, hcl.one, fun j e hj i c hi => ?_⟩ (fun b hb => ⟨hown b (ho b hb).1, (ho b hb).2⟩)
        obtain ⟨u', h1, h2⟩ := hcl.rep j e hj i c hi
        exact ⟨u', h1, h2.relabel (hsh hno)⟩
      | map m blk es clock ho hltb hb he =>
        exact .map sz m blk es clock (hown blk ho) hltb hb ⟨he.len, he.key, fun i x e hx hee => (he.val i x e hx hee).relabel (hsh hno), he.born, he.nodup⟩

end Go.Pv

end M11
section M12
/- A library of this session: one operation; regions; statements; the road to a contract. -/
set_option linter.unusedVariables false
set_option linter.unusedSimpArgs false
namespace Go.Pv

theorem own_to_rep' {γ : List Nat} {ω ω' : Own} {w : World} {o : Owner} (hω : ∀ b, ω b = some o → ω' b = none) (hn : ∀ b, ω b = none → ω' b = none) {sz : Nat} {m : MV} {v : Value} (h : OwnRep γ ω w o sz m v) : Rep γ ω' w m v := by
  cases h with
  | list es _ e xs hr hcl ho =>
    rcases hr.2 with ⟨rfl, h0⟩ | ⟨g, cap, cur, rfl, _⟩
    · have : es = [] := List.eq_nil_of_length_eq_zero h0
      subst this
      exact .list0 _ _
    · obtain ⟨cap', h1, h2, h3, us, hus⟩ := own_cells (.list sz es _ e xs hr hcl ho) (blk := g) rfl
      injection h1 with _ _ h1
      refine .list es sz g 0 cap us ?_ (hω g h2) h3 (fun e he => ?_) ?_ ?_
      · rcases hr.2 with ⟨h4, _⟩ | ⟨g', cap', cur', h4, _, _, h5, _⟩
        · exact absurd h4 (by simp)
        · injection h4 with _ _ h4; omega
      · obtain ⟨j, hj⟩ := List.getElem?_of_mem he
        exact (hus j e hj).1
      · intro j e hj i c hi
        rw [Nat.zero_add]
        exact ⟨((hus j e hj).2 i c hi).1, ((hus j e hj).2 i c hi).2.1⟩
      · intro j e hj i c hi
        exact ((hus j e hj).2 i c hi).2.2.relabel hn
  | map m blk es clock ho hlt hb he =>
    exact .map m blk es clock (hω blk ho) hb he.len he.key (fun i x e hx hee => (he.val i x e hx hee).relabel hn) hlt he.born he.nodup

def dOk (d : Option Tmp) (nt : Nat) : Prop := match d with | some t => t < nt | none => True

theorem dOk_iff {d : Option Tmp} {nt : Nat} (h : dOk d nt) : ∀ t, d = some t → t < nt := by
  intro t ht; subst ht; exact h

section
variable {P : Program} {γ : List Nat} {ω : Own} {w : World} {nt : Nat} {st : St} {a : Act}

theorem fnOf_ok (h : Rel γ ω w nt st a) {f : Operand} {g : FuncId} {cs : List MV} (hf : fnOf st f = some (g, cs)) : ∃ vs : List Value, a.eval f = .func (.func g) #[] vs.toArray ∧ vs.length = cs.length ∧ ∀ (i : Nat) (c : MV) (v : Value), cs[i]? = some c → vs[i]? = some v → Rep γ ω w c v := by
  cases f with
  | func f => simp only [fnOf] at hf; injection hf with hf; injection hf with h1 h2; subst h1; subst h2; exact ⟨[], rfl, rfl, by simp⟩
  | tmp t =>
    simp only [fnOf] at hf
    split at hf
    · rename_i f' cs' hc
      injection hf with hf; injection hf with h1 h2; subst h1; subst h2
      have hr : Rep γ ω w (.fn f' cs') (a.eval (.tmp t)) := slot_rep h t hc
      generalize a.eval (.tmp t) = v at hr ⊢
      cases hr with
      | fn _ _ vs hl hh => exact ⟨vs, rfl, hl, hh⟩
    · exact absurd hf (by simp)
  | _ => simp [fnOf] at hf

theorem app_get {cs ds : List MV} {vs us : List Value} (hl : vs.length = cs.length) {R : MV → Value → Prop} (h1 : ∀ (i : Nat) (c : MV) (v : Value), cs[i]? = some c → vs[i]? = some v → R c v) (h2 : ∀ (i : Nat) (c : MV) (v : Value), ds[i]? = some c → us[i]? = some v → R c v) :
    ∀ (i : Nat) (c : MV) (v : Value), (cs ++ ds)[i]? = some c → (vs ++ us)[i]? = some v → R c v := by
  intro i c v hc hv
  rcases Nat.lt_or_ge i cs.length with hi | hi
  · rw [List.getElem?_append_left hi] at hc
    rw [List.getElem?_append_left (by omega)] at hv
    exact h1 i c v hc hv
  · rw [List.getElem?_append_right hi] at hc
    rw [List.getElem?_append_right (by omega), hl] at hv
    exact h2 _ c v hc hv

theorem lent_val (h : Rel γ ω w nt st a) (lo : Owner → Bool) : ∀ {xs : List Operand} {ms : List MV}, opvs st xs = some ms → (∀ p ∈ lent st xs, lo p.owner = true) → (xs.map a.eval).length = ms.length ∧ ∀ (i : Nat) (c : MV) (v : Value), ms[i]? = some c → (xs.map a.eval)[i]? = some v →
    Rep γ (fun b => match ω b with | none => none | some o => if lo o then none else some .outer) w c v
  | [], ms, hx, _ => by simp [opvs] at hx; subst hx; simp
  | x :: r, ms, hx, hlo => by
    unfold opvs at hx
    split at hx
    · rename_i m l hm hl
      injection hx with hx; subst hx
      have hlo2 : ∀ p ∈ lent st r, lo p.owner = true := by
        intro p hp
        refine hlo p ?_
        unfold lent
        split
        · exact List.mem_cons_of_mem _ hp
        · exact hp
      obtain ⟨h1, h2⟩ := lent_val h lo hl hlo2
      refine ⟨by simpa using h1, fun i c v hc hv => ?_⟩
      cases i with
      | succ i => exact h2 i c v (by simpa using hc) (by simpa using hv)
      | zero =>
        simp at hc hv; subst hc; subst hv
        have hn : ∀ b, ω b = none → (match ω b with | none => none | some o => if lo o then none else some Owner.outer) = none := fun b hb => by rw [hb]
        cases hp : ownPl st x with
        | some p =>
          have hlp : lo p.owner = true := hlo p (by unfold lent; rw [hp]; exact List.mem_cons_self)
          have hat : ∃ sz, st.at p = .own sz m := by
            cases x with
            | tmp t =>
              simp only [ownPl] at hp
              simp only [opv] at hm
              split at hp
              · rename_i sz m' hc
                injection hp with hp; subst hp
                rw [hc] at hm; injection hm with hm; subst hm
                exact ⟨sz, hc⟩
              · rename_i q hc
                injection hp with hp; subst hp
                rw [hc] at hm
                simp only [rdc] at hm
                split at hm
                · rename_i sz m' hat; injection hm with hm; subst hm; exact ⟨sz, hat⟩
                · exact absurd hm (by simp)
              · exact absurd hp (by simp)
            | _ => simp [ownPl] at hp
          obtain ⟨sz, hat⟩ := hat
          refine own_to_rep' (fun b hb => ?_) hn (cur_own h hat (ownPl_ok h hp hat))
          rw [hb]; simp [hlp]
        | none =>
          have : Rep γ ω w m (a.eval x) := by
            cases x with
            | tmp t =>
              simp only [ownPl] at hp
              simp only [opv] at hm
              have hs := h.slots t
              cases hc : lk st.v t with
              | sh m' => rw [hc] at hm hs; injection hm with hm; subst hm; exact Rep.top hs
              | own sz m' => rw [hc] at hp; simp at hp
              | al q => rw [hc] at hp; simp at hp
              | _ => rw [hc] at hm; simp [rdc] at hm
            | const v =>
              simp only [opv] at hm
              cases hm' : mvConst v with
              | none => rw [hm'] at hm; simp at hm
              | some m' => rw [hm'] at hm; simp at hm; subst hm; exact (const_rep hm').top
            | func f => simp only [opv] at hm; injection hm with hm; subst hm; exact .fn f [] [] rfl (by simp)
            | global g => simp [opv] at hm
          exact this.relabel hn
    · exact absurd hx (by simp)

/-- A call. -/
theorem call_ok (h : Rel γ ω w nt st a) {o : Oper} (hd : dOk o.dst nt) {c : Call} (ho : o.op = .call c) {f : Operand} (hcal : c.callee = .value f) {K : St → Prop} (hx : callP P st o.dst f c.args.toList K) (Q : Exit → Act → World → Prop) :
    o.wp P a w (fun a' w' => ∃ γ' ω' st', Chg NotOuter γ ω w γ' ω' w' ∧ Rel γ' ω' w' nt st' a' ∧ K st') Q := by
  have hd' := dOk_iff hd
  obtain ⟨callee, args, argTypes⟩ := c
  simp only at hcal hx
  subst hcal
  unfold callP at hx
  split at hx
  · exact hx.elim
  rename_i g cs hf
  obtain ⟨vs, hfe, hvl, hvr⟩ := fnOf_ok h hf
  split at hx
  · exact hx.elim
  rename_i ms hms
  have hexec : ∀ (hent : ∀ (as : Array Value) (w : World), (callFunc g as).run P w = .ok (.enter g as) w), (execOp a.eval o).run P w = .ok (.enter g (args.toList.map a.eval ++ vs).toArray) w := by
    intro hent
    have e' : args.map a.eval = (args.toList.map a.eval).toArray := Array.ext' (by simp)
    simp [execOp, ho, resolve, hfe, Deferred.ofValue, invoke, e', hent]
  have fin : ∀ {r : Res} {ω1 : Own} {st1 : St}, (∀ (as : Array Value) (w : World), (callFunc g as).run P w = .ok (.enter g as) w) → Chg NotOuter γ ω w γ ω1 w → K (putO st1 o.dst (resC r)) →
      Calls P g (args.toList.map a.eval ++ vs).toArray w (fun e w' => ∃ v ω', e = .returned v ∧ Chg NotOuter γ ω1 w γ ω' w' ∧ Rel γ ω' w' nt (putO st1 o.dst (resC r)) (a.put o.dst v)) →
      o.wp P a w (fun a' w' => ∃ γ' ω' st', Chg NotOuter γ ω w γ' ω' w' ∧ Rel γ' ω' w' nt st' a' ∧ K st') Q := by
    intro r ω1 st1 hent hcg hK hcalls
    unfold Oper.wp
    rw [hexec hent, Oper.upon_enter]
    refine hcalls.mono ?_
    rintro e w' ⟨v, ω', rfl, h1, h2⟩
    exact ⟨γ, ω', _, hcg.trans h1, h2, hK⟩
  rcases hx with ⟨r, hs, hfl, hK⟩ | hx
  · let lo : Owner → Bool := fun o => (lent st args.toList).any (fun p => p.owner == o)
    have hlo : ∀ p ∈ lent st args.toList, lo p.owner = true := fun p hp => by
      simp only [lo, List.any_eq_true]; exact ⟨p, hp, by simp⟩
    obtain ⟨h1, h2⟩ := lent_val h lo hms hlo
    refine fin hs.1 (Chg.refl _ _ _ _) hK (call_core h hs _ (by have := h1; simp at this; simp [this, hvl]) o.dst hd' lo (fun _ => hfl) ?_)
    refine app_get h1 h2 (fun i c v hc hv => (hvr i c v hc hv).relabel (fun b hb => by rw [hb]))
  · split at hx
    · rename_i ms2 hms2
      obtain ⟨r, ms3, hm3, hs, hK⟩ := hx
      obtain ⟨ω1, hcg, hR⟩ := Rel.retOs args.toList h
      obtain ⟨h1, h2⟩ := shvs_rep hR hms2
      have hl3 : ms3.length = ms2.length := by rcases hm3 with rfl | rfl <;> simp
      refine fin hs.1 hcg hK (call_core hR hs _ (by have := h1; simp at this; simp [this, hvl, hl3]) o.dst hd' (fun _ => false) (fun ⟨o, h⟩ => by simp at h) ?_)
      refine app_get (by rw [hl3]; exact h1) ?_ (fun i c v hc hv => ((hvr i c v hc hv).chg hcg).relabel (fun b hb => by rw [hb]))
      intro i c v hc hv
      rcases hm3 with rfl | rfl
      · rw [List.getElem?_map] at hc
        cases hm : ms2[i]? with
        | none => rw [hm] at hc; simp at hc
        | some m =>
          rw [hm] at hc; simp at hc; subst hc
          exact ((h2 i m v hm hv).top).relabel (fun b hb => by rw [hb])
      · exact (h2 i c v hc hv).relabel (fun b hb => by rw [hb])
    · exact hx.elim

end
end Go.Pv

end M12
section M14
/- A library of this session: memory that is made. -/
set_option linter.unusedVariables false
set_option linter.unusedSimpArgs false
namespace Go.Pv

def cellsM : MV → List MV
  | .agg cs => cs
  | m => [m]

theorem cellsM_ok {γ : List Nat} {ω : Own} {w : World} {m : MV} {v : Value} (h : Rep γ ω w m v) (hm : ∀ vs, m ≠ .tup vs) :
    ∃ us : List Value, v.cells = us.toArray ∧ us.length = (cellsM m).length ∧ (∀ u ∈ us, u.oneCell' = true) ∧ ∀ (i : Nat) (c : MV) (u : Value), (cellsM m)[i]? = some c → us[i]? = some u → Rep γ ω w c u := by
  have one : ∀ {u : Value} {m' : MV}, Rep γ ω w m' u → u.cells = #[u] → u.oneCell' = true → cellsM m' = [m'] → ∃ us : List Value, u.cells = us.toArray ∧ us.length = (cellsM m').length ∧ (∀ u ∈ us, u.oneCell' = true) ∧ ∀ (i : Nat) (c : MV) (u : Value), (cellsM m')[i]? = some c → us[i]? = some u → Rep γ ω w c u := by
    intro u m' hr h1 h2 h3
    refine ⟨[u], h1, by rw [h3]; rfl, by simpa using h2, fun i c x hc hx => ?_⟩
    rw [h3] at hc
    cases i with
    | zero => simp at hc hx; subst hc; subst hx; exact hr
    | succ i => simp at hc
  cases h with
  | agg cs vs hl hr h1 => exact ⟨vs, rfl, hl, h1, hr⟩
  | tup cs vs hl hr => exact absurd rfl (hm _)
  | bool b => exact one (.bool b) rfl rfl rfl
  | int k n => exact one (.int k n) rfl rfl rfl
  | str s => exact one (.str s) rfl rfl rfl
  | list es sz blk o cap us hcap hω hlt hsz hcell hrep => exact one (.list es sz blk o cap us hcap hω hlt hsz hcell hrep) rfl rfl rfl
  | list0 a cap => exact one (.list0 a cap) rfl rfl rfl
  | nil => exact one .nil rfl rfl rfl
  | fn f cs vs hl hr => exact one (.fn f cs vs hl hr) rfl rfl rfl
  | nilfn => exact one .nilfn rfl rfl rfl
  | ptr b off blk hb => exact one (.ptr b off blk hb) rfl rfl rfl
  | cptr cs off blk o us hω hlt hcell hrep => exact one (.cptr cs off blk o us hω hlt hcell hrep) rfl rfl rfl
  | nilptr => exact one .nilptr rfl rfl rfl
  | map m blk es clock hω hb hl hk hv hlt hbn hnd => exact one (.map m blk es clock hω hb hl hk hv hlt hbn hnd) rfl rfl rfl
  | map0 => exact one .map0 rfl rfl rfl
  | ifc t c v hc => exact one (.ifc t c v hc) rfl rfl rfl
  | nilifc => exact one .nilifc rfl rfl rfl

/-- A new block. -/
theorem alloc_chg (γ : List Nat) (ω : Own) (w : World) (hlt : ∀ b, w.heap.size ≤ b → ω b = none) (o : Obj) (x : Option Owner) :
    Chg (fun _ => False) γ ω w γ (fun b => if b = w.heap.size then x else ω b) (w.alloc o) ∧ (∀ b, (w.alloc o).heap.size ≤ b → (if b = w.heap.size then x else ω b) = none) := by
  refine ⟨⟨rfl, rfl, rfl, by simp, fun _ _ h => h, fun b hb h0 => ⟨Go.RowKit.Below.heap_alloc w o b hb, by rw [if_neg (by omega)]; exact h0⟩, fun b o' hb h0 _ => ⟨Go.RowKit.Below.heap_alloc w o b hb, by rw [if_neg (by omega)]; exact h0⟩⟩, fun b hb => ?_⟩
  simp at hb
  rw [if_neg (by omega)]
  exact hlt b (by omega)

/-- A row of a known make is what its maker holds. -/
theorem row_own {γ : List Nat} {ω : Own} {w : World} {o : Owner} {sz n : Nat} {es : List (List MV)} {xs : List Value} {e : TypeId} {g : Nat} (hw : w.heap[g]? = some (.cells xs.toArray e (0, 0))) (hn : es.length = n) (hm : n ≤ maxLen) (hω : ω g = some o) (hlt : g < w.heap.size)
    (hc : Cells γ ω w sz es xs) : OwnRep γ ω w o sz (.list es) (.slice (some ⟨g, 0, none⟩) n n) := by
  subst hn
  refine .list sz es _ e xs ⟨hc.len, .inr ⟨g, es.length, xs.toArray, rfl, Nat.zero_le _, hw, Nat.le_refl _, hm, by simp [hc.len], ?_⟩⟩ hc (fun b hb => ?_)
  · simp [← hc.len]
  · simp [Value.ownBlock] at hb; subst hb; exact ⟨hω, hlt⟩

section
variable {P : Program} {γ : List Nat} {ω : Own} {w : World} {nt : Nat} {st : St} {a : Act}

/-! #### make([]T, n) -/
def mkP (P : Program) (st : St) (d : Nat) (T : TypeId) (l c : Operand) (K : St → Prop) : Prop :=
  match kdOf P T with
  | .slice e => match tiOf P e with
    | some ti => match opv st l, opv st c with
      | some (.int k n), some (.int k' n') => n = n' ∧ 0 ≤ n ∧ n ≤ 1000000000 ∧ ti.bytes ≤ 100000 ∧ 0 < ti.size ∧ K (st.put d (.own ti.size (.list (List.replicate n.toNat ti.zero))))
      | _, _ => False
    | none => False
  | _ => False

theorem getD_bang (z : Array Value) (i : Nat) (hi : i < z.size) : z[i]! = z[i] := by simp [hi]

theorem made_cells {ti : TI} {T : TypeId} (hT : Ty P T ti) {z : Value} (hz : zerosOf z.cells.toList = some ti.zero) (hl : ti.zero.length = ti.size) (hp : 0 < ti.size) (n : Nat) :
    Cells γ ω w ti.size (List.replicate n ti.zero) (Go.madeCells z.cells (n * ti.size)).toList := by
  obtain ⟨h1, h2, h3⟩ := zerosOf_rep (γ := γ) (ω := ω) (w := w) hz
  have hzs : z.cells.size = ti.size := by rw [← Array.length_toList, h1, hl]
  have hget : ∀ j i, j < n → i < ti.size → (Go.madeCells z.cells (n * ti.size)).toList[j * ti.size + i]? = z.cells.toList[i]? := by
    intro j i hj hi
    have hlt : j * ti.size + i < n * ti.size := by
      have : (j + 1) * ti.size ≤ n * ti.size := Nat.mul_le_mul_right _ hj
      rw [Nat.add_mul, Nat.one_mul] at this; omega
    have e2 : (j * ti.size + i) % ti.size = i := by
      rw [Nat.add_comm, Nat.add_mul_mod_self_right, Nat.mod_eq_of_lt hi]
    simp only [Go.madeCells, Array.toList_map, Array.toList_range, List.getElem?_map, List.getElem?_range hlt, Option.map_some, hzs, e2]
    have : i < z.cells.size := by omega
    rw [getD_bang _ _ this]
    simp [this]
  refine ⟨by simp [Go.madeCells], ?_, ?_, ?_⟩
  · intro e he; rw [List.eq_of_mem_replicate he]; exact hl
  · intro u hu
    obtain ⟨q, hq⟩ := List.getElem?_of_mem hu
    have hql : q < n * ti.size := by
      have := (List.getElem?_eq_some_iff.1 hq).1
      simpa [Go.madeCells] using this
    have h4 := hget (q / ti.size) (q % ti.size) (Nat.div_lt_of_lt_mul (by rw [Nat.mul_comm]; exact hql)) (Nat.mod_lt _ hp)
    rw [Nat.div_add_mod' q ti.size, hq] at h4
    exact h2 u (List.mem_of_getElem? h4.symm)
  · intro j e hj i c hi
    have hjn : j < n := by have := (List.getElem?_eq_some_iff.1 hj).1; simpa using this
    have he : e = ti.zero := by
      have := List.mem_of_getElem? hj
      exact List.eq_of_mem_replicate this
    subst he
    have hin : i < ti.size := by rw [← hl]; exact (List.getElem?_eq_some_iff.1 hi).1
    have hzi : i < z.cells.toList.length := by rw [Array.length_toList, hzs]; exact hin
    refine ⟨z.cells.toList[i], by rw [hget j i hjn hin]; exact List.getElem?_eq_getElem hzi, h3 i c _ hi (List.getElem?_eq_getElem hzi)⟩

theorem mk_ok (h : Rel γ ω w nt st a) {d : Nat} (hd : d < nt) {T : TypeId} {l c : Operand} {K : St → Prop} (hx : mkP P st d T l c K) :
    ∃ v w', (Instr.makeSlice T (a.eval l) (a.eval c)).run P w = .ok v w' ∧ ∃ γ' ω' st', Chg NotOuter γ ω w γ' ω' w' ∧ Rel γ' ω' w' nt st' (a.put (some d) v) ∧ K st' := by
  unfold mkP at hx
  split at hx
  · rename_i e hk
    obtain ⟨d1, hd1, hkd1⟩ := und_of_kd hk (by simp)
    have := tk_slice hkd1; subst this
    split at hx
    · rename_i ti hti
      have hT := ty_of hti
      obtain ⟨i, z, hi, hisz, hib, hiz, hz1, hz2, hz3⟩ := hT.info
      split at hx
      · rename_i k n k' n' hl hc
        obtain ⟨rfl, h0, h1, hby, hp, hK⟩ := hx
        have e1 := (h.val hl).int
        have e2 := (h.val hc).int
        have hn : n = (n.toNat : Int) := by omega
        have hb2 : i.bytes * n.toNat ≤ 281474976710656 := by
          have : i.bytes * n.toNat ≤ 100000 * 1000000000 := Nat.mul_le_mul (by omega) (by omega)
          omega
        have hr := run_make (P := P) w T e i z hd1 hi hiz k k' n n h0 (Int.le_refl _) (by
          have : ((i.bytes * n.toNat : Nat) : Int) ≤ 281474976710656 := by omega
          rw [Int.natCast_mul] at this
          rw [← hn] at this; exact this) (by omega)
        obtain ⟨hcg, hlt'⟩ := alloc_chg γ ω w h.lt (.cells (madeCells z.cells (n.toNat * i.size)) e) (some (.slot d))
        have hR := h.grow hcg hlt'
        refine ⟨_, _, by rw [e1, e2]; exact hr, γ, _, _, hcg.mono (fun _ h => h.elim), hR.put hd (c := .own ti.size (.list (List.replicate n.toNat ti.zero))) ?_, hK⟩
        have hcells := made_cells (γ := γ) (ω := fun b => if b = w.heap.size then some (.slot d) else ω b) (w := w.alloc (.cells (madeCells z.cells (n.toNat * i.size)) e)) hT hz1 hz2 hp n.toNat
        rw [← hisz] at hcells
        show OwnRep γ _ _ (.slot d) ti.size _ _
        rw [← hisz]
        refine row_own (e := e) (by simpa using heap_alloc_new w _) (by simp) (by simp only [maxLen]; omega) (by simp) (by simp) hcells
      · exact hx.elim
    · exact hx.elim
  · exact hx.elim

/-! #### []T{..} -/
/-- The elements of a literal: each index in turn. -/
def litE : Nat → List (Nat × MV) → Option (List (List MV))
  | _, [] => some []
  | i, (j, m) :: r => if i = j then (litE (i + 1) r).map (cellsM m :: ·) else none

def bsP (P : Program) (st : St) (d : Nat) (T : TypeId) (len : Nat) (parts : List (Nat × Operand)) (K : St → Prop) : Prop :=
  match kdOf P T with
  | .slice e => match shvs (retOs st (parts.map (·.2))) (parts.map (·.2)) with
    | some ms => match litE 0 ((parts.map (·.1)).zip ms) with
      | some es => (szOf P e ≠ 0 ∧ es.length = len ∧ len * szOf P e ≤ 16777216) ∧ (∀ x ∈ es, x.length = szOf P e) ∧ (∀ m ∈ ms, ∀ vs, m ≠ .tup vs) ∧ K ((retOs st (parts.map (·.2))).put d (.own (szOf P e) (.list es)))
      | none => False
    | none => False
  | _ => False

theorem fill_lit (sz : Nat) : ∀ (parts : List (Nat × Value)) (i : Nat) (pre : List Value) (rest : List Value) (xss : List (List Value)), pre.length = i * sz → rest.length = parts.length * sz → parts.length = xss.length →
    (∀ (q : Nat) (p : Nat × Value) (xs : List Value), parts[q]? = some p → xss[q]? = some xs → p.1 = i + q ∧ p.2.cells = xs.toArray ∧ xs.length = sz) →
    Instr.fill (fun i => some (i * sz, sz)) (pre ++ rest).toArray parts = some (pre ++ xss.flatten).toArray
  | [], i, pre, rest, xss, h1, h2, h3, h4 => by
    have : xss = [] := List.eq_nil_of_length_eq_zero h3.symm
    subst this
    have : rest = [] := List.eq_nil_of_length_eq_zero (by simpa using h2)
    subst this
    simp [Instr.fill]
  | p :: ps, i, pre, rest, xss, h1, h2, h3, h4 => by
    match xss, h3 with
    | xs :: xss, h3 =>
      obtain ⟨g1, g2, g3⟩ := h4 0 p xs rfl rfl
      obtain ⟨pi, pv⟩ := p
      simp only [Nat.add_zero] at g1
      subst g1
      have hrl : rest.length = sz + ps.length * sz := by rw [h2]; simp [Nat.add_mul]; omega
      have hsize : pv.cells.size = sz := by rw [g2]; simpa using g3
      have hfold : pv.cells.zipIdx.foldl (fun cs (x : Value × Nat) => cs.setIfInBounds (pi * sz + x.2) x.1) (pre ++ rest).toArray = (pre ++ xs ++ rest.drop sz).toArray := by
        rw [g2]
        have key : ∀ (ys : List Value) (k : Nat) (pre' rest' : List Value), pre'.length = pi * sz + k → ys.length ≤ rest'.length →
            (ys.zipIdx k).foldl (fun cs (x : Value × Nat) => cs.setIfInBounds (pi * sz + x.2) x.1) (pre' ++ rest').toArray = (pre' ++ ys ++ rest'.drop ys.length).toArray := by
          intro ys
          induction ys with
          | nil => intro k pre' rest' _ _; simp
          | cons y ys ih =>
            intro k pre' rest' hp hr
            match rest', hr with
            | z :: rest', hr =>
              simp only [List.zipIdx_cons, List.foldl_cons]
              have e : (pre' ++ z :: rest').toArray.setIfInBounds (pi * sz + k) y = ((pre' ++ [y]) ++ rest').toArray := by
                rw [← hp]
                simp
              rw [e, ih (k + 1) (pre' ++ [y]) rest' (by simp [hp]; omega) (by simpa using hr)]
              simp
        have := key xs 0 pre rest (by rw [h1]; rfl) (by omega)
        rw [g3] at this
        simp only [Array.foldl_toList, ← Array.foldl_toList, Array.toList_zipIdx]
        exact this
      have hcond : ¬ (pv.cells.size ≠ sz || decide (pi * sz + pv.cells.size > (pre ++ rest).toArray.size)) = true := by
        simp [hsize]; omega
      simp only [Instr.fill]
      rw [if_neg (by simpa [hsize] using by omega)]
      rw [hfold]
      have ih := fill_lit sz ps (pi + 1) (pre ++ xs) (rest.drop sz) xss (by simp [h1, g3, Nat.add_mul]) (by simp [hrl]) (by simpa using h3) (fun q p' xs' hp hx => by
        obtain ⟨a1, a2, a3⟩ := h4 (q + 1) p' xs' (by simpa using hp) (by simpa using hx)
        exact ⟨by omega, a2, a3⟩)
      rw [ih]
      simp

theorem litE_ok : ∀ {i : Nat} {l : List (Nat × MV)} {es : List (List MV)}, litE i l = some es → es = l.map (fun x => cellsM x.2) ∧ ∀ (q : Nat) (x : Nat × MV), l[q]? = some x → x.1 = i + q
  | i, [], es, h => by simp [litE] at h; subst h; simp
  | i, (j, m) :: r, es, h => by
    unfold litE at h
    split at h
    · rename_i hij
      subst hij
      cases hr : litE (i + 1) r with
      | none => rw [hr] at h; simp at h
      | some es' =>
        rw [hr] at h; simp at h; subst h
        obtain ⟨h1, h2⟩ := litE_ok hr
        refine ⟨by simp [h1], fun q x hq => ?_⟩
        cases q with
        | zero => simp at hq; subst hq; rfl
        | succ q => have := h2 q x (by simpa using hq); omega
    · exact absurd h (by simp)

theorem zip_get {α β : Type} {l : List α} {m : List β} {i : Nat} {a : α} {b : β} (h1 : l[i]? = some a) (h2 : m[i]? = some b) : (l.zip m)[i]? = some (a, b) := by
  rw [List.getElem?_zip_eq_some]; exact ⟨h1, h2⟩

/-- The values of parts, cell by cell. -/
theorem parts_cells (h : Rel γ ω w nt st a) {xs : List Operand} {ms : List MV} (hm : shvs st xs = some ms) (ht : ∀ m ∈ ms, ∀ vs, m ≠ .tup vs) :
    ∃ xss : List (List Value), xss.length = ms.length ∧ ∀ (i : Nat) (m : MV) (x : Operand) (us : List Value), ms[i]? = some m → xs[i]? = some x → xss[i]? = some us →
      (a.eval x).cells = us.toArray ∧ us.length = (cellsM m).length ∧ (∀ u ∈ us, u.oneCell' = true) ∧ ∀ (j : Nat) (c : MV) (u : Value), (cellsM m)[j]? = some c → us[j]? = some u → Rep γ ω w c u := by
  obtain ⟨h1, h2⟩ := shvs_rep h hm
  refine ⟨xs.map fun x => (a.eval x).cells.toList, by simpa using h1, fun i m x us g1 g2 g3 => ?_⟩
  rw [List.getElem?_map, g2] at g3
  simp at g3
  have hr := h2 i m (a.eval x) g1 (by rw [List.getElem?_map, g2]; rfl)
  obtain ⟨us', c1, c2, c3, c4⟩ := cellsM_ok hr (ht m (List.mem_of_getElem? g1))
  have : us = us' := by rw [← g3, c1]
  subst this
  exact ⟨c1, c2, c3, c4⟩

theorem flat_cells {sz : Nat} {es : List (List MV)} {xss : List (List Value)} (hl : xss.length = es.length) (hw : ∀ e ∈ es, e.length = sz)
    (h : ∀ (i : Nat) (e : List MV) (us : List Value), es[i]? = some e → xss[i]? = some us → us.length = e.length ∧ (∀ u ∈ us, u.oneCell' = true) ∧ ∀ (j : Nat) (c : MV) (u : Value), e[j]? = some c → us[j]? = some u → Rep γ ω w c u) :
    Cells γ ω w sz es xss.flatten := by
  induction es generalizing xss with
  | nil =>
    have : xss = [] := List.eq_nil_of_length_eq_zero (by simpa using hl)
    subst this
    exact ⟨by simp, by simp, by simp, by simp⟩
  | cons e es ih =>
    match xss, hl with
    | us :: xss, hl =>
      have h0 := h 0 e us rfl rfl
      have hz : e.length = sz := hw e (by simp)
      have ih' := ih (xss := xss) (by simpa using hl) (fun e he => hw e (by simp [he])) (fun i e us g1 g2 => h (i + 1) e us (by simpa using g1) (by simpa using g2))
      have one : Cells γ ω w sz [e] us := by
        refine ⟨by simp [h0.1, hz], by simpa using hz, h0.2.1, fun j e' hj i c hi => ?_⟩
        cases j with
        | zero =>
          simp at hj; subst hj
          have hi' : i < us.length := by rw [h0.1]; exact (List.getElem?_eq_some_iff.1 hi).1
          exact ⟨us[i], by simp [hi'], h0.2.2 i c _ hi (List.getElem?_eq_getElem hi')⟩
        | succ j => simp at hj
      have := cells_append one ih'
      simpa using this

theorem bs_ok (h : Rel γ ω w nt st a) {d : Nat} (hd : d < nt) {T : TypeId} {len : Nat} {parts : Array (Nat × Operand)} {K : St → Prop} (hx : bsP P st d T len parts.toList K) :
    ∃ v w', (Instr.buildSlice T len (parts.map fun (i, x) => (i, a.eval x))).run P w = .ok v w' ∧ ∃ γ' ω' st', Chg NotOuter γ ω w γ' ω' w' ∧ Rel γ' ω' w' nt st' (a.put (some d) v) ∧ K st' := by
  unfold bsP at hx
  split at hx
  · rename_i e hk
    obtain ⟨d1, hd1, hkd1⟩ := und_of_kd hk (by simp)
    have := tk_slice hkd1; subst this
    split at hx
    · rename_i ms hms
      split at hx
      · rename_i es hes
        obtain ⟨⟨hsz, hlen, hle⟩, hw, htup, hK⟩ := hx
        obtain ⟨ω1, hc1, hR1⟩ := h.retOs (parts.toList.map (·.2))
        obtain ⟨xss, hxl, hxs⟩ := parts_cells hR1 hms htup
        obtain ⟨hes1, hes2⟩ := litE_ok hes
        obtain ⟨hml, _⟩ := shvs_rep hR1 hms
        have hpl : parts.toList.length = ms.length := by simpa using hml
        have hzl : ((parts.toList.map (·.1)).zip ms).length = ms.length := by simp [hpl]
        have hel : es.length = ms.length := by rw [hes1, List.length_map, hzl]
        have heg : ∀ (i : Nat) (m : MV), ms[i]? = some m → es[i]? = some (cellsM m) := by
          intro i m hm
          have hi : i < parts.toList.length := by rw [hpl]; exact (List.getElem?_eq_some_iff.1 hm).1
          have : ((parts.toList.map (·.1)).zip ms)[i]? = some ((parts.toList[i]).1, m) := zip_get (by rw [List.getElem?_map, List.getElem?_eq_getElem hi]; rfl) hm
          rw [hes1, List.getElem?_map, this]; rfl
        obtain ⟨ti, hti, htsz⟩ := szOf_ne (P := P) (T := e) hsz
        have hT := ty_of hti
        have hlt24 : ¬ (len * ti.size > 2 ^ 24) := by rw [htsz]; omega
        have hfill : ∀ zero : Array Value, Instr.fill (fun i => some (i * ti.size, ti.size)) ((Array.range (len * ti.size)).map fun q => zero[q % zero.size]!) (parts.map fun (i, x) => (i, a.eval x)).toList = some xss.flatten.toArray := by
          intro zero
          have := fill_lit ti.size (parts.map fun (i, x) => (i, a.eval x)).toList 0 [] ((List.range (len * ti.size)).map fun q => zero[q % zero.size]!) xss (by simp) (by simp [← hlen, hel, ← hpl]) (by simp [hxl, ← hpl]) (fun q p xs hp hx => by
            simp only [Array.toList_map, List.getElem?_map] at hp
            cases hq : parts.toList[q]? with
            | none => rw [hq] at hp; simp at hp
            | some y =>
              rw [hq] at hp; simp at hp; subst hp
              have hql := (List.getElem?_eq_some_iff.1 hx).1
              have hm : ms[q]? = some ms[q] := List.getElem?_eq_getElem (by omega)
              obtain ⟨c1, c2, c3, c4⟩ := hxs q ms[q] y.2 xs hm (by rw [List.getElem?_map, hq]; rfl) hx
              refine ⟨?_, c1, ?_⟩
              · have hz : ((parts.toList.map (·.1)).zip ms)[q]? = some (y.1, ms[q]) := zip_get (by rw [List.getElem?_map, hq]; rfl) hm
                have := hes2 q _ hz
                simpa using this
              · rw [c2, htsz]; exact hw _ (List.mem_of_getElem? (heg q _ hm)))
          have e : (Array.range (len * ti.size)).map (fun q => zero[q % zero.size]!) = ((List.range (len * ti.size)).map fun q => zero[q % zero.size]!).toArray := Array.ext' (by simp)
          rw [e]
          simpa using this
        have e4 : (parts.map fun (i, x) => (i, a.eval x)).toList = parts.toList.map fun x => (x.1, a.eval x.2) := by simp
        have hrun : (Instr.buildSlice T len (parts.map fun (i, x) => (i, a.eval x))).run P w = .ok (.slice (some ⟨w.heap.size, 0, none⟩) len len) (w.alloc (.cells xss.flatten.toArray e)) := by
          by_cases h0 : len * ti.size = 0
          · have hf := hfill #[]
            have hl0 : len = 0 := by
              rcases Nat.mul_eq_zero.1 h0 with h1 | h1
              · exact h1
              · exact absurd h1 (by omega)
            subst hl0
            simp only [Nat.zero_mul] at hf
            rw [e4] at hf
            unfold Instr.buildSlice
            simp only [Sem.run_bind, run_underlying hd1, Result.andThen_ok, run_sizeT hT]
            simp only [Array.range_zero', List.map_toArray, List.map_nil] at hf
            simp [hf, newRow, Array.range_zero']
          · obtain ⟨z, hz, _⟩ := run_zeroT (P := P) (w := w) hT
            have hf := hfill z.cells
            rw [e4] at hf
            unfold Instr.buildSlice
            simp only [Sem.run_bind, run_underlying hd1, Result.andThen_ok, run_sizeT hT]
            have h24 : ¬ (16777216 < len * ti.size) := by omega
            simp [h0, hz, hf, h24, newRow]
        obtain ⟨hcg, hlt'⟩ := alloc_chg γ ω1 w hR1.lt (.cells xss.flatten.toArray e) (some (.slot d))
        have hR := hR1.grow hcg hlt'
        refine ⟨_, _, hrun, γ, _, _, hc1.trans (hcg.mono (fun _ h => h.elim)), hR.put hd (c := .own (szOf P e) (.list es)) ?_, hK⟩
        have hcells : Cells γ ω1 w ti.size es xss.flatten := by
          refine flat_cells (by rw [hxl, hel]) (fun x hx => by rw [htsz]; exact hw x hx) (fun i x us g1 g2 => ?_)
          have hi : i < ms.length := by rw [← hel]; exact (List.getElem?_eq_some_iff.1 g1).1
          have hm : ms[i]? = some ms[i] := List.getElem?_eq_getElem hi
          have hx : x = cellsM ms[i] := by rw [heg i _ hm] at g1; injection g1 with g1; exact g1.symm
          subst hx
          have hi2 : i < parts.toList.length := by omega
          obtain ⟨c1, c2, c3, c4⟩ := hxs i ms[i] (parts.toList[i]).2 us hm (by rw [List.getElem?_map, List.getElem?_eq_getElem hi2]; rfl) g2
          exact ⟨c2, c3, c4⟩
        show OwnRep γ _ _ (.slot d) (szOf P e) _ _
        rw [← htsz]
        refine row_own (e := e) (heap_alloc_new w _) hlen ?_ (by simp) (by simp) (hcells.chg hcg)
        have : len ≤ len * ti.size := Nat.le_mul_of_pos_right _ (by omega)
        simp only [maxLen]; rw [htsz] at this; omega
      · exact hx.elim
    · exact hx.elim
  · exact hx.elim

/-! #### T{..} -/
def fillS (P : Program) (T : TypeId) : List (Nat × MV) → List MV → Option (List MV)
  | [], cs => some cs
  | (i, m) :: r, cs => match fieldOf P T i with
    | some (o, fT) => if (cellsM m).length = szOf P fT ∧ o + (cellsM m).length ≤ cs.length then fillS P T r (cs.take o ++ cellsM m ++ cs.drop (o + (cellsM m).length)) else none
    | none => none

def tysOk (P : Program) (T : TypeId) : Bool :=
  match kdOf P T with
  | .strct fs => fs.all fun f => (tiOf P f.2).isSome
  | _ => false

def bldP (P : Program) (st : St) (dst : Option Tmp) (T : TypeId) (parts : List (Nat × Operand)) (K : St → Prop) : Prop :=
  match tiOf P T with
  | some ti => match shvs (retOs st (parts.map (·.2))) (parts.map (·.2)) with
    | some ms => match fillS P T ((parts.map (·.1)).zip ms) ti.zero with
      | some cs => (∀ m ∈ ms, (∀ vs, m ≠ .tup vs) ∧ (cellsM m).length ≠ 0) ∧ tysOk P T = true ∧ K (putO (retOs st (parts.map (·.2))) dst (.sh (.agg cs)))
      | none => False
    | none => False
  | none => False

end
end Go.Pv

end M14
section M15
/- A library of this session: structs, boxes, stores. -/
set_option linter.unusedVariables false
set_option linter.unusedSimpArgs false
namespace Go.Pv
section
variable {P : Program} {γ : List Nat} {ω : Own} {w : World} {nt : Nat} {st : St} {a : Act}

theorem fold_set (off : Nat) : ∀ (ys : List Value) (k : Nat) (pre rest : List Value), pre.length = off + k → ys.length ≤ rest.length →
    (ys.zipIdx k).foldl (fun cs (x : Value × Nat) => cs.setIfInBounds (off + x.2) x.1) (pre ++ rest).toArray = (pre ++ ys ++ rest.drop ys.length).toArray
  | [], k, pre, rest, _, _ => by simp
  | y :: ys, k, pre, z :: rest, hp, hr => by
    simp only [List.zipIdx_cons, List.foldl_cons]
    have e : (pre ++ z :: rest).toArray.setIfInBounds (off + k) y = ((pre ++ [y]) ++ rest).toArray := by
      rw [← hp]
      simp
    rw [e, fold_set off ys (k + 1) (pre ++ [y]) rest (by simp [hp]; omega) (by simpa using hr)]
    simp
  | y :: ys, k, pre, [], hp, hr => by simp at hr

/-- Cells of a value, pure and in the model, one for one. -/
def CellsR (γ : List Nat) (ω : Own) (w : World) (cs : List MV) (us : List Value) : Prop :=
  us.length = cs.length ∧ (∀ u ∈ us, u.oneCell' = true) ∧ ∀ (i : Nat) (c : MV) (u : Value), cs[i]? = some c → us[i]? = some u → Rep γ ω w c u

theorem CellsR.splice {cs ds : List MV} {us vs : List Value} (h : CellsR γ ω w cs us) (k : CellsR γ ω w ds vs) (o : Nat) (ho : o + ds.length ≤ cs.length) : CellsR γ ω w (cs.take o ++ ds ++ cs.drop (o + ds.length)) (us.take o ++ vs ++ us.drop (o + vs.length)) := by
  obtain ⟨h1, h2, h3⟩ := h
  obtain ⟨k1, k2, k3⟩ := k
  refine ⟨by simp [h1, k1], ?_, ?_⟩
  · intro u hu
    rcases List.mem_append.1 hu with hu | hu
    · rcases List.mem_append.1 hu with hu | hu
      · exact h2 u (List.mem_of_mem_take hu)
      · exact k2 u hu
    · exact h2 u (List.mem_of_mem_drop hu)
  · intro i c u hc hu
    have lo : (cs.take o).length = o := by simp; omega
    have lu : (us.take o).length = o := by simp; omega
    rcases Nat.lt_or_ge i o with hi | hi
    · rw [List.append_assoc, List.getElem?_append_left (by omega), List.getElem?_take, if_pos hi] at hc hu
      exact h3 i c u hc hu
    · rw [List.append_assoc, List.getElem?_append_right (by omega), lo] at hc
      rw [List.append_assoc, List.getElem?_append_right (by omega), lu] at hu
      rcases Nat.lt_or_ge (i - o) ds.length with hj | hj
      · rw [List.getElem?_append_left hj] at hc
        rw [List.getElem?_append_left (by omega)] at hu
        exact k3 _ c u hc hu
      · rw [List.getElem?_append_right hj, List.getElem?_drop] at hc
        rw [List.getElem?_append_right (by omega), List.getElem?_drop] at hu
        refine h3 _ c u hc ?_
        rw [k1] at hu; exact hu

theorem fillS_ok {T : TypeId} {as : Array Field} (hu : P.underlying T = some (.struct as)) (places : Array (Nat × Nat)) (hpl : ∀ (i o : Nat) (fT : TypeId), fieldOf P T i = some (o, fT) → szOf P fT ≠ 0 → places[i]? = some (o, szOf P fT)) :
    ∀ {ps : List (Nat × MV)} {vs : List (Nat × Value)} {cs out : List MV} {us : List Value}, fillS P T ps cs = some out → vs.length = ps.length →
    (∀ (q : Nat) (x : Nat × MV) (y : Nat × Value), ps[q]? = some x → vs[q]? = some y → x.1 = y.1 ∧ (cellsM x.2).length ≠ 0 ∧ ∃ xs : List Value, y.2.cells = xs.toArray ∧ CellsR γ ω w (cellsM x.2) xs) → CellsR γ ω w cs us →
    ∃ us', Instr.fill (places[·]?) us.toArray vs = some us'.toArray ∧ CellsR γ ω w out us'
  | [], vs, cs, out, us, h, hl, hv, hc => by
    have : vs = [] := List.eq_nil_of_length_eq_zero (by simpa using hl)
    subst this
    simp [fillS] at h; subst h
    exact ⟨us, rfl, hc⟩
  | (i, m) :: r, (j, v) :: vs, cs, out, us, h, hl, hv, hc => by
    unfold fillS at h
    split at h
    · rename_i o fT hf
      split at h
      · rename_i hcond
        obtain ⟨h1, h2⟩ := hcond
        obtain ⟨e, hne, xs, g1, g2⟩ := hv 0 (i, m) (j, v) rfl rfl
        simp only at e; subst e
        have hp := hpl i o fT hf (by rw [← h1]; exact hne)
        have hsz : v.cells.size = szOf P fT := by rw [g1, ← h1]; simpa using g2.1
        have hul : us.length = cs.length := hc.1
        have hxl : xs.length = (cellsM m).length := g2.1
        simp only [Instr.fill, hp]
        rw [if_neg (by rw [hsz]; simp; omega)]
        have hfold : v.cells.zipIdx.foldl (fun cs (x : Value × Nat) => cs.setIfInBounds (o + x.2) x.1) us.toArray = (us.take o ++ xs ++ us.drop (o + xs.length)).toArray := by
          rw [g1]
          have := fold_set o xs 0 (us.take o) (us.drop o) (by simp; omega) (by simp; omega)
          rw [List.take_append_drop, List.drop_drop] at this
          simp only [Array.foldl_toList, ← Array.foldl_toList, Array.toList_zipIdx]
          exact this
        rw [hfold]
        exact fillS_ok hu places hpl h (by simpa using hl) (fun q x y hx hy => hv (q + 1) x y (by simpa using hx) (by simpa using hy)) (hc.splice g2 o h2)
      · exact absurd h (by simp)
    · exact absurd h (by simp)
  | (i, m) :: r, [], cs, out, us, h, hl, hv, hc => by simp at hl

theorem run_places {as : Array Field} (hall : ∀ f ∈ as, ∃ ti, tiOf P f.type = some ti) : (as.mapM fun f => do pure (f.offset, ← sizeOf f.type) : Sem (Array (Nat × Nat))).run P w = .ok (as.map fun f => (f.offset, szOf P f.type)) w := by
  have key : ∀ l : List Field, (∀ f ∈ l, ∃ ti, tiOf P f.type = some ti) → (l.mapM fun f => (Prod.mk f.offset <$> sizeOf f.type : Sem (Nat × Nat))).run P w = .ok (l.map fun f => (f.offset, szOf P f.type)) w := by
    intro l
    induction l with
    | nil => intro _; simp
    | cons f r ih =>
      intro h
      obtain ⟨ti, hti⟩ := h f (by simp)
      have e : szOf P f.type = ti.size := by simp [szOf, hti]
      rw [List.mapM_cons]
      simp only [Sem.run_bind, Sem.run_map, run_sizeT (ty_of hti), Result.andThen_ok, ih (fun g hg => h g (by simp [hg])), Sem.run_pure]
      simp [e]
  have k2 := key as.toList (fun f hf => hall f (by simpa using hf))
  have e : (as.mapM fun f => do pure (f.offset, ← sizeOf f.type) : Sem (Array (Nat × Nat))) = List.toArray <$> (as.toList.mapM fun f => (Prod.mk f.offset <$> sizeOf f.type : Sem (Nat × Nat))) := by
    rw [← Array.mapM_eq_mapM_toList]
    simp
  rw [e]
  simp only [Sem.run_map, k2, Result.andThen_ok]
  congr 1
  exact Array.ext' (by simp)

def CtOk (m : MV) : Prop := (∀ vs, m ≠ .tup vs) ∧ (cellsM m).length ≠ 0

theorem bld_ok (h : Rel γ ω w nt st a) {d : Option Tmp} (hd : ∀ t, d = some t → t < nt) {T : TypeId} {parts : Array (Nat × Operand)} {K : St → Prop} (hx : bldP P st d T parts.toList K) :
    ∃ v, (Instr.build T (parts.map fun (i, x) => (i, a.eval x))).run P w = .ok v w ∧ ∃ ω' st', Chg NotOuter γ ω w γ ω' w ∧ Rel γ ω' w nt st' (a.put d v) ∧ K st' := by
  unfold bldP at hx
  split at hx
  · rename_i ti hti
    have hT := ty_of hti
    split at hx
    · rename_i ms hms
      split at hx
      · rename_i cs hcs
        obtain ⟨hm, ht, hK⟩ := hx
        obtain ⟨ω1, hc1, hR1⟩ := h.retOs (parts.toList.map (·.2))
        obtain ⟨xss, hxl, hxs⟩ := parts_cells hR1 hms (fun m hmm => (hm m hmm).1)
        obtain ⟨hml, _⟩ := shvs_rep hR1 hms
        have hpl : parts.toList.length = ms.length := by simpa using hml
        obtain ⟨z, hz, hz1, hz2⟩ := run_zeroT (P := P) (w := w) hT
        obtain ⟨z1, z2, z3⟩ := zerosOf_rep (γ := γ) (ω := ω1) (w := w) hz1
        have hzc : CellsR γ ω1 w ti.zero z.cells.toList := ⟨z1, z2, z3⟩
        -- the type is a struct's
        have hkd : ∃ fs, kdOf P T = .strct fs ∧ ∀ f ∈ fs, (tiOf P f.2).isSome = true := by
          unfold tysOk at ht
          split at ht
          · rename_i fs hfs; exact ⟨fs, hfs, by simpa using ht⟩
          · exact absurd ht (by simp)
        obtain ⟨fs, hfs, hft⟩ := hkd
        obtain ⟨dd, hdd, hkk⟩ := und_of_kd hfs (by simp)
        obtain ⟨as, rfl, rfl⟩ := tk_strct hkk
        have hall : ∀ f ∈ as, ∃ ti, tiOf P f.type = some ti := by
          intro f hf
          have := hft (f.offset, f.type) (by simp; exact ⟨f, hf, rfl, rfl⟩)
          exact Option.isSome_iff_exists.1 this
        have hplc : ∀ (i o : Nat) (fT : TypeId), fieldOf P T i = some (o, fT) → szOf P fT ≠ 0 → (as.map fun f => (f.offset, szOf P f.type))[i]? = some (o, szOf P fT) := by
          intro i o fT hf _
          obtain ⟨as', hu', fd, g1, g2, g3⟩ := field_desc hf
          rw [hdd] at hu'; injection hu' with hu'; injection hu' with hu'; subst hu'
          rw [Array.getElem?_map, g1]; simp [g2, g3]
        obtain ⟨us', hfill, hus⟩ := fillS_ok (γ := γ) (ω := ω1) (w := w) hdd _ hplc (vs := (parts.toList.map fun x => (x.1, a.eval x.2))) hcs (by simp [hpl]) (fun q x y hx hy => by
          rw [List.getElem?_map] at hy
          cases hq : parts.toList[q]? with
          | none => rw [hq] at hy; simp at hy
          | some p =>
            rw [hq] at hy; simp at hy; subst hy
            have hql : q < ms.length := by rw [← hpl]; exact (List.getElem?_eq_some_iff.1 hq).1
            have hmq : ms[q]? = some ms[q] := List.getElem?_eq_getElem hql
            have hz' : ((parts.toList.map (·.1)).zip ms)[q]? = some (p.1, ms[q]) := zip_get (by rw [List.getElem?_map, hq]; rfl) hmq
            rw [hz'] at hx; injection hx with hx; subst hx
            have hxq : xss[q]? = some xss[q] := List.getElem?_eq_getElem (by omega)
            obtain ⟨c1, c2, c3, c4⟩ := hxs q ms[q] p.2 xss[q] hmq (by rw [List.getElem?_map, hq]; rfl) hxq
            exact ⟨rfl, (hm _ (List.mem_of_getElem? hmq)).2, xss[q], c1, c2, c3, c4⟩) hzc
        refine ⟨.agg us'.toArray, ?_, ω1, putO (retOs st (parts.toList.map (·.2))) d (.sh (.agg cs)), hc1, hR1.putO hd (fun t ht => ?_), hK⟩
        · have e4 : (parts.map fun (i, x) => (i, a.eval x)).toList = parts.toList.map fun x => (x.1, a.eval x.2) := by simp
          have ez : z.cells.toList.toArray = z.cells := by simp
          rw [ez] at hfill
          unfold Instr.build
          simp only [Sem.run_bind, hz, Result.andThen_ok, run_underlying hdd, run_places hall, e4, hfill]
          rfl
        · show Rep γ ω1 w (.agg cs) (.agg us'.toArray)
          exact .agg cs us' hus.1 hus.2.2 hus.2.1
      · exact hx.elim
    · exact hx.elim
  · exact hx.elim

end
end Go.Pv

end M15
section M16
/- A library of this session: boxes and stores. -/
set_option linter.unusedVariables false
set_option linter.unusedSimpArgs false
namespace Go.Pv
section
variable {P : Program} {γ : List Nat} {ω : Own} {w : World} {nt : Nat} {st : St} {a : Act}

/-! #### A variable in memory -/
theorem newBox (h : Rel γ ω w nt st a) {cs : List MV} {us : List Value} (hc : CellsR γ ω w cs us) (e : TypeId) :
    ∃ ω', Chg (fun _ => False) γ ω w (γ ++ [w.heap.size]) ω' (w.alloc (.cells us.toArray e)) ∧ Rel (γ ++ [w.heap.size]) ω' (w.alloc (.cells us.toArray e)) nt { st with B := st.B ++ [some (cs.map .sh)] } a := by
  obtain ⟨hcg, hlt'⟩ := alloc_chg γ ω w h.lt (.cells us.toArray e) (some (.box st.B.length))
  have hR := h.grow hcg hlt'
  have hpre : Chg (fun _ => False) γ (fun b => if b = w.heap.size then some (Owner.box st.B.length) else ω b) (w.alloc (.cells us.toArray e)) (γ ++ [w.heap.size]) (fun b => if b = w.heap.size then some (Owner.box st.B.length) else ω b) (w.alloc (.cells us.toArray e)) :=
    ⟨rfl, rfl, rfl, Nat.le_refl _, fun k b hk => by rw [List.getElem?_append_left (List.getElem?_eq_some_iff.1 hk).1]; exact hk, fun b _ h0 => ⟨rfl, h0⟩, fun b o _ h0 _ => ⟨rfl, h0⟩⟩
  refine ⟨_, hcg.trans hpre, hR.size, hR.defers, hR.lt, ⟨by simp [h.boxes.len], fun k bx hk => ?_⟩, fun s => ?_⟩
  · have hlen := h.boxes.len
    rcases Nat.lt_or_ge k st.B.length with hkl | hkl
    · rw [List.getElem?_append_left hkl] at hk
      obtain ⟨blk, cur, e', g1, g2, g3, g4, g5, g6⟩ := hR.boxes.box k bx hk
      exact ⟨blk, cur, e', hpre.pre _ _ g1, g2, g3, g4, g5, fun i c hi => by obtain ⟨u, q1, q2, q3⟩ := g6 i c hi; exact ⟨u, q1, q2, q3.chg hpre (fun h => h)⟩⟩
    · have hk' : k = st.B.length := by
        have := (List.getElem?_eq_some_iff.1 hk).1
        simp at this; omega
      subst hk'
      simp at hk
      subst hk
      refine ⟨w.heap.size, us.toArray, e, by rw [hlen, List.getElem?_append_right (Nat.le_refl _)]; simp, by simp, by simp, heap_alloc_new w _, by simp [hc.1], fun i c hi => ?_⟩
      rw [List.getElem?_map] at hi
      cases hci : cs[i]? with
      | none => rw [hci] at hi; simp at hi
      | some m =>
        rw [hci] at hi; simp at hi; subst hi
        have hiu : i < us.length := by rw [hc.1]; exact (List.getElem?_eq_some_iff.1 hci).1
        exact ⟨us[i], by simp [hiu], hc.2.1 _ (List.getElem_mem hiu), ((hc.2.2 i m _ hci (List.getElem?_eq_getElem hiu)).chg hcg).chg hpre⟩
  · refine slot_chg hR hpre (fun _ h => h) (fun h => h) (fun q sz m hq hat => ?_)
    cases q with
    | slot s1 => exact hat
    | cell k o =>
      obtain ⟨bx, h1, h2⟩ := at_cell hat
      simp only [St.at]
      rw [List.getElem?_append_left (List.getElem?_eq_some_iff.1 h1).1, h1]
      simp [h2]

/-- A variable in memory that never changes. -/
theorem newFrz (h : Rel γ ω w nt st a) {cs : List MV} {us : List Value} (hc : CellsR γ ω w cs us) (e : TypeId) :
    ∃ ω', Chg (fun _ => False) γ ω w γ ω' (w.alloc (.cells us.toArray e)) ∧ Rel γ ω' (w.alloc (.cells us.toArray e)) nt st a ∧ Rep γ ω' (w.alloc (.cells us.toArray e)) (.cptr cs 0) (.pointer (some ⟨w.heap.size, 0, none⟩)) := by
  obtain ⟨hcg, hlt'⟩ := alloc_chg γ ω w h.lt (.cells us.toArray e) none
  refine ⟨_, hcg, h.grow hcg hlt', ?_⟩
  have := Rep.cptr (γ := γ) (ω := fun b => if b = w.heap.size then none else ω b) (w := w.alloc (.cells us.toArray e)) cs 0 w.heap.size 0 (fun i => (us[i]?).getD undef) (by simp) (by simp)
    (fun i c hi => by
      have hiu : i < us.length := by rw [hc.1]; exact (List.getElem?_eq_some_iff.1 hi).1
      have e1 : (us[i]?).getD undef = us[i] := by rw [List.getElem?_eq_getElem hiu]; rfl
      rw [e1, Nat.zero_add]
      refine ⟨?_, hc.2.1 _ (List.getElem_mem hiu)⟩
      simp only [World.cell?, heap_alloc_new]
      simp [hiu])
    (fun i c hi => by
      have hiu : i < us.length := by rw [hc.1]; exact (List.getElem?_eq_some_iff.1 hi).1
      have e1 : (us[i]?).getD undef = us[i] := by rw [List.getElem?_eq_getElem hiu]; rfl
      rw [e1]
      exact (hc.2.2 i c _ hi (List.getElem?_eq_getElem hiu)).chg hcg)
  simpa using this

/-- A variable in memory is declared with a value; fz: it never changes. -/
def boxP (fz : Bool) (st : St) (dst : Option Tmp) (x : Operand) (K : St → Prop) : Prop :=
  match shv (retO st x) x with
  | some m => (∀ vs, m ≠ .tup vs) ∧ (if fz = true then K (putO (retO st x) dst (.sh (.cptr (cellsM m) 0)))
      else K (putO { (retO st x) with B := (retO st x).B ++ [some ((cellsM m).map .sh)] } dst (.sh (.ptr (retO st x).B.length 0))))
  | none => False

theorem box_ok (h : Rel γ ω w nt st a) {fz : Bool} {d : Option Tmp} (hd : ∀ t, d = some t → t < nt) {T : TypeId} {x : Operand} {K : St → Prop} (hx : boxP fz st d x K) :
    ∃ v w', (Instr.box T (a.eval x)).run P w = .ok v w' ∧ ∃ γ' ω' st', Chg NotOuter γ ω w γ' ω' w' ∧ Rel γ' ω' w' nt st' (a.put d v) ∧ K st' := by
  unfold boxP at hx
  split at hx
  · rename_i m hm
    obtain ⟨ht, hx⟩ := hx
    obtain ⟨ω1, hc1, hR1⟩ := h.retO x
    obtain ⟨us, g1, g2, g3, g4⟩ := cellsM_ok (shv_rep hR1 hm) ht
    have hc : CellsR γ ω1 w (cellsM m) us := ⟨g2, g3, g4⟩
    have hrun : (Instr.box T (a.eval x)).run P w = .ok (.pointer (some ⟨w.heap.size, 0, none⟩)) (w.alloc (.cells us.toArray T)) := by
      simp [Instr.box, newVar, newRow, g1]
    split at hx
    · obtain ⟨ω2, h1, h2, h3⟩ := newFrz hR1 hc T
      exact ⟨_, _, hrun, γ, ω2, _, hc1.trans (h1.mono (fun _ h => h.elim)), h2.putO hd (c := .sh (.cptr (cellsM m) 0)) (fun t _ => h3), hx⟩
    · obtain ⟨ω2, h1, h2⟩ := newBox hR1 hc T
      refine ⟨_, _, hrun, γ ++ [w.heap.size], ω2, _, hc1.trans (h1.mono (fun _ h => h.elim)), h2.putO hd (c := .sh (.ptr (retO st x).B.length 0)) (fun t _ => ?_), hx⟩
      refine Rep.ptr _ _ _ ?_
      have hl : γ.length = (retO st x).B.length := hR1.boxes.len.symm
      rw [← hl, List.getElem?_append_right (Nat.le_refl _)]; simp
  · exact hx.elim

def aloP (P : Program) (fz : Bool) (st : St) (dst : Option Tmp) (T : TypeId) (K : St → Prop) : Prop :=
  match tiOf P T with
  | some ti => if fz = true then K (putO st dst (.sh (.cptr ti.zero 0))) else K (putO { st with B := st.B ++ [some (ti.zero.map .sh)] } dst (.sh (.ptr st.B.length 0)))
  | none => False

theorem alo_ok (h : Rel γ ω w nt st a) {fz : Bool} {d : Option Tmp} (hd : ∀ t, d = some t → t < nt) {T : TypeId} {K : St → Prop} (hx : aloP P fz st d T K) :
    ∃ v w', (Instr.alloc T true (.tuple #[])).run P w = .ok v w' ∧ ∃ γ' ω' st', Chg NotOuter γ ω w γ' ω' w' ∧ Rel γ' ω' w' nt st' (a.put d v) ∧ K st' := by
  unfold aloP at hx
  split at hx
  · rename_i ti hti
    have hT := ty_of hti
    obtain ⟨z, hz, hz1, hz2⟩ := run_zeroT (P := P) (w := w) hT
    obtain ⟨z1, z2, z3⟩ := zerosOf_rep (γ := γ) (ω := ω) (w := w) hz1
    have hc : CellsR γ ω w ti.zero z.cells.toList := ⟨z1, z2, z3⟩
    have hrun : (Instr.alloc T true (.tuple #[])).run P w = .ok (.pointer (some ⟨w.heap.size, 0, none⟩)) (w.alloc (.cells z.cells.toList.toArray T)) := by
      simp [Instr.alloc, hz, newVar, newRow]
    split at hx
    · obtain ⟨ω2, h1, h2, h3⟩ := newFrz h hc T
      exact ⟨_, _, hrun, γ, ω2, _, (h1.mono (fun _ h => h.elim)), h2.putO hd (c := .sh (.cptr ti.zero 0)) (fun t _ => h3), hx⟩
    · obtain ⟨ω2, h1, h2⟩ := newBox h hc T
      refine ⟨_, _, hrun, γ ++ [w.heap.size], ω2, _, (h1.mono (fun _ h => h.elim)), h2.putO hd (c := .sh (.ptr st.B.length 0)) (fun t _ => ?_), hx⟩
      refine Rep.ptr _ _ _ ?_
      have hl : γ.length = st.B.length := h.boxes.len.symm
      rw [← hl, List.getElem?_append_right (Nat.le_refl _)]; simp
  · exact hx.elim

/-! #### Stores -/
/-- The content of a place is another one of the same length. -/
def St.upd (st : St) (p : Place) (c : Ct) : St :=
  match p with
  | .slot s => { st with v := pt st.v s c }
  | .cell k off => { st with B := setCt st.B k off c }

theorem Rel.upd {ω' : Own} {w' : World} (h : Rel γ ω w nt st a) {p : Place} {sz : Nat} {es es' : List (List MV)} (hat : st.at p = .own sz (.list es)) (hl : es'.length = es.length) {v : Value} (hv : p.cur γ a.tmps w v)
    (hc : Chg (fun x => x = p.owner) γ ω w γ ω' w') (hlt : ∀ b, w'.heap.size ≤ b → ω' b = none) (hown : OwnRep γ ω' w' p.owner sz (.list es') v) : Rel γ ω' w' nt (st.upd p (.own sz (.list es'))) a := by
  have hb : ∀ k, ¬ (Owner.box k = p.owner) := by intro k; cases p <;> simp [Place.owner]
  -- places of other slots
  have hkeep : ∀ (q : Place) (sz0 : Nat) (m0 : MV), st.at q = .own sz0 m0 → (q = p ∧ (st.upd p (.own sz (.list es'))).at q = .own sz (.list es')) ∨ (q ≠ p ∧ (st.upd p (.own sz (.list es'))).at q = .own sz0 m0) := by
    intro q sz0 m0 hq
    by_cases hqp : q = p
    · subst hqp
      refine .inl ⟨rfl, ?_⟩
      cases q with
      | slot s => simp only [St.at, St.upd, lk_pt, if_true]
      | cell k o =>
        obtain ⟨cs, h1, h2⟩ := at_cell hq
        have hB : setCt st.B k o (.own sz (.list es')) = st.B.set k (some (cs.set o (.own sz (.list es')))) := by simp [setCt, h1]
        simp only [St.at, St.upd, hB]
        have e1 : k < st.B.length := (List.getElem?_eq_some_iff.1 h1).1
        have e2 : o < cs.length := (List.getElem?_eq_some_iff.1 h2).1
        simp [e1, e2]
    · refine .inr ⟨hqp, ?_⟩
      cases p with
      | slot s0 =>
        cases q with
        | slot s =>
          have : s0 ≠ s := fun e => hqp (by rw [e])
          simp only [St.at, St.upd, lk_pt, if_neg this] at hq ⊢; exact hq
        | cell k o => exact hq
      | cell k0 o0 =>
        cases q with
        | slot s => exact hq
        | cell k o =>
          obtain ⟨cs, h1, h2⟩ := at_cell hq
          obtain ⟨cs0, g1, g2⟩ := at_cell hat
          have hB : setCt st.B k0 o0 (.own sz (.list es')) = st.B.set k0 (some (cs0.set o0 (.own sz (.list es')))) := by simp [setCt, g1]
          simp only [St.at, St.upd, hB, List.getElem?_set]
          by_cases hkk : k0 = k
          · subst hkk
            rw [g1] at h1; injection h1 with h1; injection h1 with h1; subst h1
            have hoo : o0 ≠ o := fun e => hqp (by rw [e])
            have : k0 < st.B.length := (List.getElem?_eq_some_iff.1 g1).1
            simp [this, List.getElem?_set, hoo, h2]
          · simp [hkk, h1, h2]
  have hslot : ∀ s, Place.slot s ≠ p → CtRep γ ω' w' (st.upd p (.own sz (.list es'))) a.tmps (.slot s) (lk st.v s) (a.tmps.getD s undef) := by
    intro s hs
    have ht : ¬ (Owner.slot s = p.owner) := by
      intro e; cases p with
      | slot s' => simp [Place.owner] at e; exact hs (by rw [e])
      | cell k o => simp [Place.owner] at e
    have hold := h.slots s
    cases hcs : lk st.v s with
    | al q =>
      rw [hcs] at hold
      obtain ⟨⟨sz0, m0, h1⟩, h2⟩ := hold
      refine ⟨?_, cur_chg h hc (fun k e => hb k e) h1 h2⟩
      rcases hkeep q sz0 m0 h1 with ⟨_, g⟩ | ⟨_, g⟩
      · exact ⟨_, _, g⟩
      · exact ⟨_, _, g⟩
    | eadr q i off =>
      rw [hcs] at hold
      obtain ⟨sz0, es0, u, blk, h1, h2, h3, h4, h5⟩ := hold
      rcases hkeep q sz0 _ h1 with ⟨e, g⟩ | ⟨_, g⟩
      · subst e
        rw [hat] at h1; injection h1 with e1 e2; injection e2 with e2; subst e1; subst e2
        exact ⟨sz, es', u, blk, g, by omega, cur_chg h hc (fun k e => hb k e) hat h3, h4, h5⟩
      · exact ⟨sz0, es0, u, blk, g, h2, cur_chg h hc (fun k e => hb k e) h1 h3, h4, h5⟩
    | sh m' => rw [hcs] at hold; exact Rep.chg hc hold
    | own sz' m' => rw [hcs] at hold; exact OwnRep.chg hc ht hold
    | tupc cs => rw [hcs] at hold; exact CtRep.chg (st := st.upd p (.own sz (.list es'))) hc ht hold (fun q u hq => by simp [Ct.refs] at hq)
    | siter s' pos => rw [hcs] at hold; exact CtRep.chg (st := st.upd p (.own sz (.list es'))) hc ht hold (fun q u hq => by simp [Ct.refs] at hq)
    | dead => trivial
  cases p with
  | slot s0 =>
    refine ⟨h.size, h.defers, hlt, h.boxes.chg hc rfl (fun k e => by simp [Place.owner] at e) (fun k i e => by simp [Place.owner] at e), fun s => ?_⟩
    by_cases hs : s0 = s
    · subst hs
      show CtRep γ ω' w' _ a.tmps (.slot s0) (lk (pt st.v s0 _) s0) _
      rw [lk_pt, if_pos rfl]
      simp only [Place.cur] at hv
      rw [hv]; exact hown
    · have := hslot s (fun e => hs (by injection e with e; exact e.symm))
      show CtRep γ ω' w' _ a.tmps (.slot s) (lk (pt st.v s0 _) s) _
      rw [lk_pt, if_neg hs]; exact this
  | cell k0 o0 =>
    obtain ⟨cs0, g1, g2⟩ := at_cell hat
    refine ⟨h.size, h.defers, hlt, ?_, fun s => hslot s (by simp)⟩
    refine boxes_but h.boxes rfl hc (fun k e => hb k e) (fun k i e => by simp [Place.owner] at e; exact e) (fun u hu => ?_)
    obtain ⟨cs, q1, c, blk, q2, q3, q4⟩ := hu
    obtain ⟨blk', r1, r2⟩ := hv
    rw [q3] at r1; injection r1 with r1; subst r1
    rw [q4] at r2; injection r2 with r2; subst r2
    exact hown

end
end Go.Pv

end M16
section M17
/- A library of this session: stores. -/
set_option linter.unusedVariables false
set_option linter.unusedSimpArgs false
namespace Go.Pv

theorem flatten_get {α : Type} {sz : Nat} : ∀ {es : List (List α)}, (∀ e ∈ es, e.length = sz) → ∀ (j i : Nat), i < sz → es.flatten[j * sz + i]? = (es[j]?).bind (·[i]?)
  | [], _, j, i, _ => by simp
  | e :: es, h, 0, i, hi => by
    have he : e.length = sz := h e (by simp)
    simp only [Nat.zero_mul, Nat.zero_add, List.flatten_cons]
    rw [List.getElem?_append_left (by omega)]; rfl
  | e :: es, h, j + 1, i, hi => by
    have he : e.length = sz := h e (by simp)
    simp only [List.flatten_cons]
    rw [List.getElem?_append_right (by rw [he, Nat.add_mul]; omega), show (j + 1) * sz + i - e.length = j * sz + i from by rw [he, Nat.add_mul]; omega]
    rw [flatten_get (fun e he => h e (by simp [he])) j i hi]; rfl

theorem flatten_len {α : Type} {sz : Nat} : ∀ {es : List (List α)}, (∀ e ∈ es, e.length = sz) → es.flatten.length = es.length * sz
  | [], _ => by simp
  | e :: es, h => by
    rw [List.flatten_cons, List.length_append, flatten_len (fun e he => h e (by simp [he])), h e (by simp), List.length_cons, Nat.add_mul]; omega

theorem flatten_set {α : Type} {sz : Nat} {es : List (List α)} (h : ∀ e ∈ es, e.length = sz) {i : Nat} {e : List α} (he : es[i]? = some e) (cs : List α) (off : Nat) (ho : off + cs.length ≤ sz) :
    (es.set i (e.take off ++ cs ++ e.drop (off + cs.length))).flatten = es.flatten.take (i * sz + off) ++ cs ++ es.flatten.drop (i * sz + off + cs.length) := by
  induction es generalizing i with
  | nil => simp at he
  | cons x r ih =>
    have hx : x.length = sz := h x (by simp)
    cases i with
    | zero =>
      simp at he; subst he
      simp only [List.set_cons_zero, List.flatten_cons, Nat.zero_mul, Nat.zero_add]
      rw [List.take_append_of_le_length (by omega), List.drop_append_of_le_length (by omega)]
      simp
    | succ i =>
      have := ih (fun e he => h e (by simp [he])) (by simpa using he)
      simp only [List.set_cons_succ, List.flatten_cons, this]
      have e1 : (i + 1) * sz + off = x.length + (i * sz + off) := by rw [hx, Nat.add_mul]; omega
      rw [e1, List.take_append, List.drop_append]
      have e2 : x.take (x.length + (i * sz + off)) = x := List.take_of_length_le (by omega)
      have e3 : x.drop (x.length + (i * sz + off) + cs.length) = [] := List.drop_eq_nil_of_le (by omega)
      rw [e2, e3, show x.length + (i * sz + off) - x.length = i * sz + off from by omega, show x.length + (i * sz + off) + cs.length - x.length = i * sz + off + cs.length from by omega]
      simp

section
variable {P : Program} {γ : List Nat} {ω : Own} {w : World} {nt : Nat} {st : St} {a : Act}

theorem cells_to {sz : Nat} {es : List (List MV)} {xs : List Value} (hs : 0 < sz) (h : Cells γ ω w sz es xs) : CellsR γ ω w es.flatten xs := by
  refine ⟨by rw [h.len, flatten_len h.wid], h.one, fun q c u hc hu => ?_⟩
  have e1 := flatten_get h.wid (q / sz) (q % sz) (Nat.mod_lt _ hs)
  rw [Nat.div_add_mod' q sz, hc] at e1
  cases hj : es[q / sz]? with
  | none => rw [hj] at e1; simp at e1
  | some e =>
    rw [hj] at e1; simp at e1
    obtain ⟨u', g1, g2⟩ := h.rep _ e hj _ c e1.symm
    rw [Nat.div_add_mod' q sz, hu] at g1
    injection g1 with g1; subst g1; exact g2

theorem cells_from {sz : Nat} {es : List (List MV)} {xs : List Value} (hw : ∀ e ∈ es, e.length = sz) (h : CellsR γ ω w es.flatten xs) : Cells γ ω w sz es xs := by
  refine ⟨by rw [h.1, flatten_len hw], hw, h.2.1, fun j e hj i c hi => ?_⟩
  have hil : i < sz := by rw [← hw e (List.mem_of_getElem? hj)]; exact (List.getElem?_eq_some_iff.1 hi).1
  have e1 := flatten_get hw j i hil
  rw [hj] at e1
  simp only [Option.bind_some, hi] at e1
  have hlt : j * sz + i < xs.length := by rw [h.1]; exact (List.getElem?_eq_some_iff.1 e1).1
  exact ⟨xs[j * sz + i], List.getElem?_eq_getElem hlt, h.2.2 _ c _ e1 (List.getElem?_eq_getElem hlt)⟩

theorem run_storeT {T : TypeId} {ti : TI} (hT : Ty P T ti) {g o : Nat} {e : TypeId} {cur : Array Value} (hg : w.heap[g]? = some (.cells cur e (0, 0))) {v : Value} {us : List Value} (hv : v.cells = us.toArray) (hl : us.length = ti.size) (hfit : o + us.length ≤ cur.size) (h1 : ∀ u ∈ us, u.oneCell' = true) :
    (Instr.storeAt T (.pointer (some ⟨g, o, none⟩)) v).run P w = .ok () (w.setRow g (cur.toList.take o ++ us ++ cur.toList.drop (o + us.length)).toArray) := by
  have hst := run_storeCells_at P g o e us 0 cur w hg (by simpa using hfit) h1
  simp only [Nat.add_zero] at hst
  simp [Instr.storeAt, Instr.sureAddr, storeVar, hv, run_sizeT hT, hl, hst]

/-- A store into an element of a row that one place holds. -/
def stoE (P : Program) (st : St) (T : TypeId) (p : Place) (i off : Nat) (x : Operand) (K : St → Prop) : Prop :=
  match (retO st x).at p with
  | .own sz (.list es) => match shv (retO st x) x, es[i]? with
    | some m, some e => (∀ vs, m ≠ .tup vs) ∧ (cellsM m).length = szOf P T ∧ szOf P T ≠ 0 ∧ off + szOf P T ≤ sz ∧
        K ((retO st x).upd p (.own sz (.list (es.set i (e.take off ++ cellsM m ++ e.drop (off + (cellsM m).length))))))
    | _, _ => False
  | _ => False

theorem retire_keeps (h : Rel γ ω w nt st a) {q p : Place} {sz : Nat} {m : MV} (hp : (st.retire q).at p = .own sz m) : p ≠ q ∨ st.retire q = st := by
  by_cases e : p = q
  · subst e
    right
    unfold St.retire at hp ⊢
    split
    · rename_i sz0 m0 hat
      exfalso
      rw [hat] at hp
      cases p with
      | slot s => simp only [St.at, lk_pt, if_true] at hp; exact absurd hp (by simp)
      | cell k o =>
        obtain ⟨cs, h1, h2⟩ := at_cell hat
        have hB : setCt st.B k o (.sh m0) = st.B.set k (some (cs.set o (.sh m0))) := by simp [setCt, h1]
        have e1 : k < st.B.length := (List.getElem?_eq_some_iff.1 h1).1
        have e2 : o < cs.length := (List.getElem?_eq_some_iff.1 h2).1
        simp only [St.at, hB] at hp
        simp [e1, e2] at hp
    · rfl
  · exact .inl e

theorem retire_eadr {t : Nat} {p q : Place} {i off : Nat} (hc : lk st.v t = .eadr p i off) (hpq : p ≠ q) : lk (st.retire q).v t = .eadr p i off := by
  unfold St.retire
  split
  · rename_i sz m hat
    cases q with
    | slot s =>
      simp only [lk_pt]
      by_cases hs : s = t
      · subst hs; simp only [St.at] at hat; rw [hc] at hat; exact absurd hat (by simp)
      · rw [if_neg hs, lk_retS, hc]; simp [retC, hpq]
    | cell k o => simp only [lk_retS, hc]; simp [retC, hpq]
  · exact hc

theorem retO_eadr (h : Rel γ ω w nt st a) {t : Nat} {p : Place} {i off : Nat} (hc : lk st.v t = .eadr p i off) {x : Operand} {sz : Nat} {m : MV} (hp : (retO st x).at p = .own sz m) : lk (retO st x).v t = .eadr p i off := by
  cases x with
  | tmp s =>
    simp only [retO] at hp ⊢
    cases hs : lk st.v s with
    | own sz' m' =>
      simp only [hs] at hp
      show lk (st.retire (.slot s)).v t = _
      rcases retire_keeps h hp with g | g
      · exact retire_eadr hc g
      · rw [g]; exact hc
    | al q =>
      simp only [hs] at hp
      show lk (st.retire q).v t = _
      rcases retire_keeps h hp with g | g
      · exact retire_eadr hc g
      · rw [g]; exact hc
    | _ => exact hc
  | _ => exact hc

theorem stoE_ok (h : Rel γ ω w nt st a) {T : TypeId} {t : Nat} {p : Place} {i off : Nat} (hc : lk st.v t = .eadr p i off) {x : Operand} {K : St → Prop} (hx : stoE P st T p i off x K) :
    ∃ w', (Instr.storeAt T (a.eval (.tmp t)) (a.eval x)).run P w = .ok () w' ∧ ∃ ω' st', Chg NotOuter γ ω w γ ω' w' ∧ Rel γ ω' w' nt st' a ∧ K st' := by
  unfold stoE at hx
  split at hx
  · rename_i sz es hat
    split at hx
    · rename_i m e hm he
      obtain ⟨ht, hlen, hne, hoff, hK⟩ := hx
      obtain ⟨ω1, hc1, hR⟩ := h.retO x
      have hce := retO_eadr h hc hat
      obtain ⟨sz0, es0, u, blk, q1, q2, q3, q4, q5⟩ := (slot_rep hR t hce)
      rw [hat] at q1; injection q1 with e1 e2; injection e2 with e2; subst e1; subst e2
      have hown := cur_own hR hat q3
      obtain ⟨us, g1, g2, g3, g4⟩ := cellsM_ok (shv_rep hR hm) ht
      obtain ⟨ti, hti, hts⟩ := szOf_ne hne
      cases hown with
      | list _ _ e' xs hr hcl ho =>
        rcases hr.2 with ⟨hn, _⟩ | ⟨g, cap, cur, heq, _, hg, hle, hmx, hcs, htk⟩
        · rw [hn] at q4; simp [Value.ownBlock] at q4
        · rw [heq] at q4; simp [Value.ownBlock] at q4
          subst q4
          have hsz : 0 < sz := by omega
          have hil : i < es.length := q2
          have hrow : i * sz + sz ≤ es.length * sz := by
            have : (i + 1) * sz ≤ es.length * sz := Nat.mul_le_mul_right sz hil
            rw [Nat.add_mul, Nat.one_mul] at this; exact this
          have hcap : es.length * sz ≤ cur.size := by rw [hcs]; exact Nat.mul_le_mul_right _ hle
          have hul : us.length = szOf P T := by rw [g2, hlen]
          have hrun := run_storeT (P := P) (ty_of hti) (w := w) (g := g) (o := i * sz + off) (e := e') (cur := cur) hg g1 (by omega) (by omega) g3
          have hxl : xs.length = es.length * sz := hcl.len
          -- the cells behind the store
          have hR2 : CellsR γ ω1 w (es.flatten.take (i * sz + off) ++ cellsM m ++ es.flatten.drop (i * sz + off + (cellsM m).length)) (xs.take (i * sz + off) ++ us ++ xs.drop (i * sz + off + us.length)) :=
            (cells_to hsz hcl).splice ⟨g2, g3, g4⟩ (i * sz + off) (by rw [flatten_len hcl.wid]; omega)
          rw [← flatten_set hcl.wid he (cellsM m) off (by omega)] at hR2
          have hel : e.length = sz := hcl.wid e (List.mem_of_getElem? he)
          have hcells : Cells γ ω1 w sz (es.set i (e.take off ++ cellsM m ++ e.drop (off + (cellsM m).length))) (xs.take (i * sz + off) ++ us ++ xs.drop (i * sz + off + us.length)) := by
            refine cells_from (fun y hy => ?_) hR2
            rcases List.mem_or_eq_of_mem_set hy with hy | hy
            · exact hcl.wid y hy
            · subst hy; simp; omega
          let w' := w.setRow g (cur.toList.take (i * sz + off) ++ us ++ cur.toList.drop (i * sz + off + us.length)).toArray
          have hgb : ∀ b, b ≠ g → w'.heap[b]? = w.heap[b]? := fun b hb => setRow_other w g b _ hb
          have hsizew : w'.heap.size = w.heap.size := by simp [w', World.setRow]
          have hog := ho g (by rw [heq]; rfl)
          have hcg : Chg (fun x => x = p.owner) γ ω1 w γ ω1 w' := by
            refine ⟨rfl, rfl, rfl, by omega, fun _ _ h => h, fun b hb h0 => ⟨hgb b (fun e => ?_), h0⟩, fun b o hb h0 hn => ⟨hgb b (fun e => ?_), h0⟩⟩
            · subst e; rw [hog.1] at h0; exact absurd h0 (by simp)
            · subst e; rw [hog.1] at h0; injection h0 with h0; exact hn h0.symm
          have hlt' : ∀ b, w'.heap.size ≤ b → ω1 b = none := fun b hb => hR.lt b (by omega)
          have hne' : p.owner ≠ .outer := by cases p <;> simp [Place.owner]
          refine ⟨w', by rw [q5]; exact hrun, ω1, _, hc1.trans (hcg.mono (fun o ho => by rw [ho]; exact hne')), hR.upd hat (by simp) q3 hcg hlt' ?_, hK⟩
          refine .list sz _ _ e' _ ⟨by rw [hcells.len], .inr ⟨g, cap, _, by rw [heq, List.length_set], Nat.zero_le _, setRow_heap w g cur _ e' _ hg, by simpa using hle, hmx, ?_, ?_⟩⟩ (hcells.chg hcg) (fun b hb => ⟨(ho b hb).1, by rw [hsizew]; exact (ho b hb).2⟩)
          · simp; omega
          · simp only [List.length_set]
            rw [← htk]
            have hcl2 : cur.toList.length = cur.size := Array.length_toList
            rw [List.take_append, List.take_append]
            have a1 : (cur.toList.take (i * sz + off)).length = i * sz + off := by simp; omega
            rw [a1]
            rw [List.take_of_length_le (l := cur.toList.take (i * sz + off)) (by rw [a1]; omega)]
            rw [List.take_of_length_le (l := us) (by omega)]
            rw [List.take_take, Nat.min_eq_left (by omega)]
            congr 1
            rw [List.drop_take]
            congr 1
            simp; omega
    · exact hx.elim
  · exact hx.elim

end
end Go.Pv

end M17
section M18
/- A library of this session: stores into boxes. -/
set_option linter.unusedVariables false
set_option linter.unusedSimpArgs false
namespace Go.Pv
section
variable {P : Program} {γ : List Nat} {ω : Own} {w : World} {nt : Nat} {st : St} {a : Act}

def noOwn : List Ct → Bool
  | [] => true
  | .own _ _ :: _ => false
  | _ :: r => noOwn r

theorem noOwn_get : ∀ {cs : List Ct}, noOwn cs = true → ∀ (i : Nat) (sz : Nat) (m : MV), cs[i]? ≠ some (.own sz m)
  | [], _, i, sz, m => by simp
  | c :: r, h, i, sz, m => by
    cases i with
    | zero =>
      intro e; simp at e; subst e; simp [noOwn] at h
    | succ i =>
      have : noOwn r = true := by cases c <;> simp [noOwn] at h <;> exact h
      simpa using noOwn_get this i sz m

def setR {α : Type} (cs ds : List α) (off : Nat) : List α := cs.take off ++ ds ++ cs.drop (off + ds.length)

theorem setR_get {α : Type} {cs ds : List α} {off : Nat} (h : off + ds.length ≤ cs.length) (i : Nat) : (setR cs ds off)[i]? = if i < off then cs[i]? else if i < off + ds.length then ds[i - off]? else cs[i]? := by
  have l0 : (cs.take off).length = off := by simp; omega
  unfold setR
  split
  · rename_i hi
    rw [List.append_assoc, List.getElem?_append_left (by omega), List.getElem?_take, if_pos hi]
  · rename_i hi
    rw [List.append_assoc, List.getElem?_append_right (by omega), l0]
    split
    · rename_i hi2
      rw [List.getElem?_append_left (by omega)]
    · rename_i hi2
      rw [List.getElem?_append_right (by omega), List.getElem?_drop]
      congr 1; omega

/-- The cells of a box turn; none of them was held. -/
theorem Rel.setBox (h : Rel γ ω w nt st a) {k : Nat} {cs : List Ct} (hk : st.B[k]? = some (some cs)) {off : Nat} {ds : List Ct} (ho : off + ds.length ≤ cs.length) (hno : noOwn ((cs.drop off).take ds.length) = true)
    {us : List Value} (hul : us.length = ds.length) (h1 : ∀ u ∈ us, u.oneCell' = true) (hbc : ∀ (i : Nat) (c : Ct) (u : Value), ds[i]? = some c → us[i]? = some u → BoxCt γ ω w k (off + i) c u) :
    ∃ blk cur e w', γ[k]? = some blk ∧ w.heap[blk]? = some (.cells cur e (0, 0)) ∧ cur.size = cs.length ∧ w' = w.setRow blk (cur.toList.take off ++ us ++ cur.toList.drop (off + us.length)).toArray ∧
      Chg (fun x => x = .box k) γ ω w γ ω w' ∧ Rel γ ω w' nt { st with B := st.B.set k (some (setR cs ds off)) } a := by
  obtain ⟨blk, cur, e, g1, g2, g3, g4, g5, g6⟩ := h.boxes.box k cs hk
  let w' := w.setRow blk (cur.toList.take off ++ us ++ cur.toList.drop (off + us.length)).toArray
  have hgb : ∀ b, b ≠ blk → w'.heap[b]? = w.heap[b]? := fun b hb => setRow_other w blk b _ hb
  have hsizew : w'.heap.size = w.heap.size := by simp [w', World.setRow]
  have hcg : Chg (fun x => x = Owner.box k) γ ω w γ ω w' := by
    refine ⟨rfl, rfl, rfl, by omega, fun _ _ h => h, fun b hb h0 => ⟨hgb b (fun e => ?_), h0⟩, fun b o hb h0 hn => ⟨hgb b (fun e => ?_), h0⟩⟩
    · subst e; rw [g3] at h0; exact absurd h0 (by simp)
    · subst e; rw [g3] at h0; injection h0 with h0; exact hn h0.symm
  have hnew : w'.heap[blk]? = some (.cells (cur.toList.take off ++ us ++ cur.toList.drop (off + us.length)).toArray e (0, 0)) := setRow_heap w blk cur _ e _ g4
  have hcl : cur.toList.length = cs.length := by rw [Array.length_toList]; exact g5
  have hcell : ∀ i : Nat, (cur.toList.take off ++ us ++ cur.toList.drop (off + us.length))[i]? = if i < off then cur.toList[i]? else if i < off + us.length then us[i - off]? else cur.toList[i]? := fun i => setR_get (cs := cur.toList) (ds := us) (by rw [hcl, hul]; exact ho) i
  have hB : ∀ (q : Place) (sz : Nat) (m : MV), st.at q = .own sz m → ({ st with B := st.B.set k (some (setR cs ds off)) } : St).at q = .own sz m ∧ (∀ o, q = .cell k o → o < off ∨ off + ds.length ≤ o) := by
    intro q sz m hq
    cases q with
    | slot s => exact ⟨hq, fun o e => by simp at e⟩
    | cell k' o =>
      obtain ⟨cs', q1, q2⟩ := at_cell hq
      simp only [St.at, List.getElem?_set]
      have hkl : k < st.B.length := (List.getElem?_eq_some_iff.1 hk).1
      by_cases hkk : k = k'
      · subst hkk
        rw [hk] at q1; injection q1 with q1; injection q1 with q1; subst q1
        have hout : o < off ∨ off + ds.length ≤ o := by
          rcases Nat.lt_or_ge o off with h1 | h1
          · exact .inl h1
          · rcases Nat.lt_or_ge o (off + ds.length) with h2 | h2
            · exfalso
              refine noOwn_get hno (o - off) sz m ?_
              rw [List.getElem?_take, if_pos (by omega), List.getElem?_drop, show off + (o - off) = o from by omega]; exact q2
            · exact .inr h2
        refine ⟨?_, fun o' e => by injection e with _ e; subst e; exact hout⟩
        simp only [hkl, if_true]
        rw [setR_get ho]
        rcases hout with h1 | h1
        · simp [h1, q2]
        · have n1 : ¬ o < off := by omega
          have n2 : ¬ o < off + ds.length := by omega
          simp [n1, n2, q2]
      · exact ⟨by simp [hkk, q1, q2], fun o' e => by injection e with e1 _; exact absurd e1.symm hkk⟩
  have hcur : ∀ (q : Place) (sz : Nat) (m : MV) (u : Value), st.at q = .own sz m → q.cur γ a.tmps w u → q.cur γ a.tmps w' u := by
    intro q sz m u hq hu
    cases q with
    | slot s => exact hu
    | cell k' o =>
      obtain ⟨b, r1, r2⟩ := hu
      refine ⟨b, r1, ?_⟩
      by_cases hb : b = blk
      · subst hb
        -- the box is the same one
        obtain ⟨cs', q1, q2⟩ := at_cell hq
        obtain ⟨b2, u2, s1, s2, s3, s4, _⟩ := cell_box h.boxes q1 q2
        rw [r1] at s1; injection s1 with s1; subst s1
        rw [g3] at s3; injection s3 with s3; injection s3 with s3; subst s3
        have hout := (hB _ sz m hq).2 o rfl
        simp only [World.cell?, hnew]
        simp only [World.cell?, g4] at r2
        simp at r2
        simp only [Option.isSome_none, Bool.false_eq_true, if_false, List.getElem?_toArray]
        rw [hcell]
        rcases hout with h1 | h1
        · rw [if_pos h1]; simpa using r2
        · rw [if_neg (by omega), if_neg (by omega)]; simpa using r2
      · rw [cell_of_heap (hgb b hb)]; exact r2
  refine ⟨blk, cur, e, w', g1, g4, g5, rfl, hcg, h.size, h.defers, fun b hb => h.lt b (by omega), ⟨?_, fun k' cs' hk' => ?_⟩, fun s => ?_⟩
  · simp; exact h.boxes.len
  · rw [List.getElem?_set] at hk'
    have hkl : k < st.B.length := (List.getElem?_eq_some_iff.1 hk).1
    by_cases hkk : k = k'
    · subst hkk
      simp [hkl] at hk'
      subst hk'
      refine ⟨blk, _, e, g1, by omega, g3, hnew, ?_, fun i c hi => ?_⟩
      · simp [setR, hul]; omega
      · rw [setR_get ho] at hi
        simp only [List.getElem?_toArray]
        rw [hcell, hul]
        split at hi
        · rename_i hlt
          rw [if_pos hlt]
          obtain ⟨u, p1, p2, p3⟩ := g6 i c hi
          exact ⟨u, by simpa using p1, p2, p3.chg hcg (by simp)⟩
        · rename_i hge
          rw [if_neg hge]
          split at hi
          · rename_i hlt
            rw [if_pos hlt]
            have hiu : i - off < us.length := by omega
            refine ⟨us[i - off], List.getElem?_eq_getElem hiu, h1 _ (List.getElem_mem hiu), ?_⟩
            have := hbc (i - off) c _ hi (List.getElem?_eq_getElem hiu)
            rw [show off + (i - off) = i from by omega] at this
            exact this.chg hcg (by simp)
          · rename_i hge2
            rw [if_neg hge2]
            obtain ⟨u, p1, p2, p3⟩ := g6 i c hi
            exact ⟨u, by simpa using p1, p2, p3.chg hcg (by simp)⟩
    · simp [hkk] at hk'
      obtain ⟨b, cur', e', p1, p2, p3, p4, p5, p6⟩ := h.boxes.box k' cs' hk'
      have hbne : b ≠ blk := by
        intro e; subst e; rw [g3] at p3; injection p3 with p3; injection p3 with p3; exact hkk p3
      exact ⟨b, cur', e', p1, by omega, p3, (hgb b hbne).trans p4, p5, fun i c hi => by obtain ⟨u, v1, v2, v3⟩ := p6 i c hi; exact ⟨u, v1, v2, v3.chg hcg (by simp)⟩⟩
  · have hold := h.slots s
    cases hcs : lk st.v s with
    | al q =>
      rw [hcs] at hold
      obtain ⟨⟨sz, m, r1⟩, r2⟩ := hold
      exact ⟨⟨sz, m, (hB q sz m r1).1⟩, hcur q sz m _ r1 r2⟩
    | eadr q i o =>
      rw [hcs] at hold
      obtain ⟨sz, es, u, b, r1, r2, r3, r4, r5⟩ := hold
      exact ⟨sz, es, u, b, (hB q sz _ r1).1, r2, hcur q sz _ _ r1 r3, r4, r5⟩
    | sh m' => rw [hcs] at hold; exact Rep.chg hcg hold
    | own sz' m' => rw [hcs] at hold; exact OwnRep.chg hcg (by simp) hold
    | tupc cs2 => rw [hcs] at hold; exact CtRep.chg (st := st) hcg (by simp) hold (fun q u hq => by simp [Ct.refs] at hq)
    | siter s' pos => rw [hcs] at hold; exact CtRep.chg (st := st) hcg (by simp) hold (fun q u hq => by simp [Ct.refs] at hq)
    | dead => trivial

/-- A store into a box. -/
def stoB (P : Program) (st : St) (T : TypeId) (ad x : Operand) (K : St → Prop) : Prop :=
  match shv (retO st x) ad with
  | some (.ptr k off) => match (retO st x).B[k]? with
    | some (some cs) => match shv (retO st x) x with
      | some m => (∀ vs, m ≠ .tup vs) ∧ (cellsM m).length = szOf P T ∧ szOf P T ≠ 0 ∧ off + szOf P T ≤ cs.length ∧ noOwn ((cs.drop off).take (cellsM m).length) = true ∧
          K { (retO st x) with B := (retO st x).B.set k (some (setR cs ((cellsM m).map .sh) off)) }
      | none => False
    | _ => False
  | _ => False

theorem stoB_ok (h : Rel γ ω w nt st a) {T : TypeId} {ad x : Operand} {K : St → Prop} (hx : stoB P st T ad x K) :
    ∃ w', (Instr.storeAt T (a.eval ad) (a.eval x)).run P w = .ok () w' ∧ ∃ ω' st', Chg NotOuter γ ω w γ ω' w' ∧ Rel γ ω' w' nt st' a ∧ K st' := by
  unfold stoB at hx
  split at hx
  · rename_i k off hp
    split at hx
    · rename_i cs hk
      split at hx
      · rename_i m hm
        obtain ⟨ht, hlen, hne, hoff, hno, hK⟩ := hx
        obtain ⟨ω1, hc1, hR⟩ := h.retO x
        obtain ⟨us, g1, g2, g3, g4⟩ := cellsM_ok (shv_rep hR hm) ht
        obtain ⟨ti, hti, hts⟩ := szOf_ne hne
        have hap := shv_rep hR hp
        obtain ⟨blk0, ha, hg0⟩ : ∃ blk, a.eval ad = .pointer (some ⟨blk, off, none⟩) ∧ γ[k]? = some blk := by
          generalize a.eval ad = v at hap
          cases hap with
          | ptr _ _ blk hb => exact ⟨blk, rfl, hb⟩
        obtain ⟨blk, cur, e, w', q1, q2, q3, q4, q5, q6⟩ := hR.setBox hk (off := off) (ds := (cellsM m).map .sh) (by simp; omega) (by simpa using hno) (us := us) (by simp [g2]) g3
          (fun i c u hi hu => by
            rw [List.getElem?_map] at hi
            cases hci : (cellsM m)[i]? with
            | none => rw [hci] at hi; simp at hi
            | some c0 => rw [hci] at hi; simp at hi; subst hi; exact g4 i c0 u hci hu)
        rw [hg0] at q1; injection q1 with q1; subst q1
        have hrun := run_storeT (P := P) (ty_of hti) (w := w) (g := blk0) (o := off) (e := e) (cur := cur) q2 g1 (by omega) (by omega) g3
        refine ⟨w', by rw [ha, q4]; exact hrun, ω1, _, hc1.trans (q5.mono (fun o ho => by rw [ho]; simp [NotOuter])), q6, hK⟩
      · exact hx.elim
    · exact hx.elim
  · exact hx.elim

end
end Go.Pv

end M18
section M19
/- A library of this session: contracts of functions that turn boxes. -/
set_option linter.unusedVariables false
set_option linter.unusedSimpArgs false
namespace Go.Pv

def isBoxO : Owner → Bool
  | .box _ => true
  | .cell _ _ => true
  | _ => false

/-- THE CONTRACT of a function that turns what pointers lead to: with these boxes, and then with those. -/
def SpecB (P : Program) (f : FuncId) (args : List MV) (B : List (Option (List Ct))) (r : Res) (B' : List (Option (List Ct))) : Prop :=
  (∀ (as : Array Value) (w : World), (callFunc f as).run P w = .ok (.enter f as) w) ∧ ∀ (γ : List Nat) (ω : Own) (w : World) (vs : List Value), vs.length = args.length → (∀ (i : Nat) (c : MV) (v : Value), args[i]? = some c → vs[i]? = some v → Rep γ ω w c v) →
    (∀ b, w.heap.size ≤ b → ω b = none) → (∀ b o, ω b = some o → isBoxO o = true ∨ o = .outer) → Boxes γ ω w B →
    Calls P f vs.toArray w fun e w' => ∃ v ω', e = .returned v ∧ Chg (fun o => isBoxO o = true) γ ω w γ ω' w' ∧ (∀ b, w'.heap.size ≤ b → ω' b = none) ∧
      (∀ b o, ω' b = some o → isBoxO o = true ∨ o = .outer ∨ o = .res) ∧ Boxes γ ω' w' B' ∧ ResRep γ ω' w' r v

theorem OwnRep.relab {γ : List Nat} {ω ω' : Own} {w : World} {o o' : Owner} (hn : ∀ b, ω b = none → ω' b = none) (ho : ∀ b, ω b = some o → ω' b = some o') {sz : Nat} {m : MV} {u : Value} (h : OwnRep γ ω w o sz m u) : OwnRep γ ω' w o' sz m u := by
  cases h with
  | list es _ e2 xs hr2 hcl hob =>
    refine .list sz es u e2 xs hr2 ⟨hcl.len, hcl.wid, hcl.one, fun j e hj i c hi => ?_⟩ (fun b hb => ⟨ho b (hob b hb).1, (hob b hb).2⟩)
    obtain ⟨u', h1, h2⟩ := hcl.rep j e hj i c hi
    exact ⟨u', h1, h2.relabel hn⟩
  | map m blk es clock hob hltb hb he =>
    exact .map sz m blk es clock (ho blk hob) hltb hb ⟨he.len, he.key, fun i x e hx hee => (he.val i x e hx hee).relabel hn, he.born, he.nodup⟩

theorem Boxes.relab {γ : List Nat} {ω ω' : Own} {w : World} (hn : ∀ b, ω b = none → ω' b = none) (ho : ∀ b o, isBoxO o = true → ω b = some o → ω' b = some o) {B : List (Option (List Ct))} (h : Boxes γ ω w B) : Boxes γ ω' w B :=
  ⟨h.len, fun k cs hk => by
    obtain ⟨blk, cur, e, h1, h2, h3, h4, h5, h6⟩ := h.box k cs hk
    refine ⟨blk, cur, e, h1, h2, ho _ _ rfl h3, h4, h5, fun i c hi => ?_⟩
    obtain ⟨u, hu, h1c, hb⟩ := h6 i c hi
    refine ⟨u, hu, h1c, ?_⟩
    cases c <;> simp only [BoxCt] at hb ⊢
    · exact hb.relabel hn
    · exact hb.relab hn (fun b hb => ho b _ rfl hb)
    all_goals exact hb⟩

theorem Spec.toB {P : Program} {f : FuncId} {args : List MV} {r : Res} (h : Spec P f args r) (B : List (Option (List Ct))) : SpecB P f args B r B := by
  refine ⟨h.1, fun γ ω w vs hl hv hlt hlab hB => ?_⟩
  refine (h.2 γ ω w vs hl hv hlt (fun b e => by rcases hlab b _ e with h | h <;> simp [isBoxO] at h)).mono ?_
  rintro e w' ⟨v, ω', he, hc, hlt', hold, hnew, hr⟩
  refine ⟨v, ω', he, hc.mono (fun _ h => h.elim), hlt', fun b o ho => ?_, hB.chg hc rfl (fun _ h => h) (fun _ _ h => h), hr⟩
  rcases Nat.lt_or_ge b w.heap.size with hb | hb
  · rw [hold b hb] at ho
    rcases hlab b o ho with h | h
    · exact .inl h
    · exact .inr (.inl h)
  · rcases hnew b hb with h | h | h
    · rw [h] at ho; simp at ho
    · rw [h] at ho; injection ho with ho; exact .inr (.inl ho.symm)
    · rw [h] at ho; injection ho with ho; exact .inr (.inr ho.symm)

def noCell : Ct → Ct
  | .al (.cell _ _) => .dead
  | .eadr (.cell _ _) _ _ => .dead
  | c => c

def killB : List (Nat × Ct) → List (Nat × Ct)
  | [] => []
  | (k, c) :: r => (k, noCell c) :: killB r

theorem lk_killB (v : List (Nat × Ct)) (s : Nat) : lk (killB v) s = noCell (lk v s) := by
  induction v with
  | nil => rfl
  | cons x r ih =>
    obtain ⟨k, c⟩ := x
    by_cases h : k = s
    · simp [killB, lk, h]
    · simp only [killB, lk, h, if_false]; exact ih

theorem call_coreB {P : Program} {γ : List Nat} {ω : Own} {w : World} {nt : Nat} {st : St} {a : Act} (h : Rel γ ω w nt st a) {g : FuncId} {args : List MV} {r : Res} {B' : List (Option (List Ct))} (hs : SpecB P g args st.B r B') (us : List Value) (hl : us.length = args.length) (d : Option Tmp) (hd : ∀ t, d = some t → t < nt)
    (hargs : ∀ (i : Nat) (c : MV) (v : Value), args[i]? = some c → us[i]? = some v → Rep γ ω w c v) :
    Calls P g us.toArray w fun e w' => ∃ v ω', e = .returned v ∧ Chg NotOuter γ ω w γ ω' w' ∧ Rel γ ω' w' nt (putO ⟨killB st.v, B'⟩ d (resC r)) (a.put d v) := by
  let ωc : Own := fun b => match ω b with | none => none | some o => if isBoxO o then some o else some .outer
  have hltc : ∀ b, w.heap.size ≤ b → ωc b = none := fun b hb => by simp [ωc, h.lt b hb]
  have hnc : ∀ b, ω b = none → ωc b = none := fun b hb => by simp [ωc, hb]
  have hlabc : ∀ b o, ωc b = some o → isBoxO o = true ∨ o = .outer := by
    intro b o hb
    simp only [ωc] at hb
    split at hb
    · simp at hb
    · split at hb
      · rename_i h1; injection hb with hb; subst hb; exact .inl h1
      · injection hb with hb; exact .inr hb.symm
  have hboxc : ∀ b o, isBoxO o = true → ω b = some o → ωc b = some o := fun b o h1 h2 => by simp [ωc, h2, h1]
  refine (hs.2 γ ωc w us hl (fun i c v hc hv => (hargs i c v hc hv).relabel hnc) hltc hlabc (h.boxes.relab hnc hboxc)).mono ?_
  rintro e w' ⟨v, ω', he, hc, hlt', hlab', hB', hr⟩
  let own : Owner := match d with | some t => .slot t | none => .outer
  have houter : ∀ b o, ω b = some o → isBoxO o = false → b < w.heap.size ∧ w'.heap[b]? = w.heap[b]? ∧ ω' b = some .outer := by
    intro b o hb ho
    have hlt : b < w.heap.size := by
      rcases Nat.lt_or_ge b w.heap.size with h1 | h1
      · exact h1
      · rw [h.lt b h1] at hb; simp at hb
    have := hc.keep b .outer hlt (by simp [ωc, hb, ho]) (by simp [isBoxO])
    exact ⟨hlt, this.1, this.2⟩
  let ω2 : Own := fun b => match ω b with
    | some o => if isBoxO o then (if ω' b = some .res then some own else ω' b) else some o
    | none => if ω' b = some .res then some own else ω' b
  have hcase : ∀ b, (∃ o, ω b = some o ∧ isBoxO o = false ∧ ω2 b = some o ∧ ω' b = some .outer) ∨ ω2 b = if ω' b = some .res then some own else ω' b := by
    intro b
    cases hω : ω b with
    | none => exact .inr (by simp only [ω2, hω])
    | some o =>
      cases ho : isBoxO o with
      | true => exact .inr (by simp only [ω2, hω, ho, if_true])
      | false => exact .inl ⟨o, rfl, ho, by simp [ω2, hω, ho], (houter b o hω ho).2.2⟩
  have hn2 : ∀ b, ω' b = none → ω2 b = none := by
    intro b hb
    rcases hcase b with ⟨o, _, _, _, h4⟩ | h1
    · rw [hb] at h4; simp at h4
    · rw [h1, hb]; simp
  have hb2 : ∀ b o, isBoxO o = true → ω' b = some o → ω2 b = some o := by
    intro b o ho hb
    rcases hcase b with ⟨o', _, _, _, h4⟩ | h1
    · rw [hb] at h4; injection h4 with h4; subst h4; simp [isBoxO] at ho
    · rw [h1, if_neg (by rw [hb]; intro e; injection e with e; subst e; simp [isBoxO] at ho)]; exact hb
  have hr2 : ∀ b, ω' b = some .res → ω2 b = some own := by
    intro b hb
    rcases hcase b with ⟨o', _, _, _, h4⟩ | h1
    · rw [hb] at h4; simp at h4
    · rw [h1, if_pos hb]
  have hc2 : Chg (fun o => isBoxO o = true) γ ω w γ ω2 w' := by
    refine ⟨hc.os, hc.tape, hc.output, hc.size, fun _ _ h => h, fun b hb h0 => ?_, fun b o hb h0 hno => ?_⟩
    · obtain ⟨e1, e2⟩ := hc.none b hb (hnc b h0)
      exact ⟨e1, hn2 b e2⟩
    · have hno' : isBoxO o = false := by simpa using hno
      obtain ⟨_, e1, e2⟩ := houter b o h0 hno'
      exact ⟨e1, by simp [ω2, h0, hno']⟩
  have hlt2 : ∀ b, w'.heap.size ≤ b → ω2 b = none := fun b hb => hn2 b (hlt' b hb)
  have hRel : Rel γ ω2 w' nt ⟨killB st.v, B'⟩ a := by
    refine ⟨h.size, h.defers, hlt2, hB'.relab hn2 hb2, fun s => ?_⟩
    show CtRep γ ω2 w' _ a.tmps (.slot s) (lk (killB st.v) s) _
    rw [lk_killB]
    have hold := h.slots s
    have hts : ¬ (isBoxO (.slot s) = true) := by simp [isBoxO]
    cases hcs : lk st.v s with
    | al p =>
      rw [hcs] at hold
      cases p with
      | slot s1 =>
        obtain ⟨⟨sz, m, h1⟩, h2⟩ := hold
        refine ⟨⟨sz, m, ?_⟩, h2⟩
        simp only [St.at] at h1 ⊢
        rw [lk_killB, h1]; rfl
      | cell k o => trivial
    | eadr p i o =>
      rw [hcs] at hold
      cases p with
      | slot s1 =>
        obtain ⟨sz, es, u, blk, h1, h2, h3, h4, h5⟩ := hold
        refine ⟨sz, es, u, blk, ?_, h2, h3, h4, h5⟩
        simp only [St.at] at h1 ⊢
        rw [lk_killB, h1]; rfl
      | cell k o => trivial
    | sh m => rw [hcs] at hold; exact Rep.chg hc2 hold
    | own sz m => rw [hcs] at hold; exact OwnRep.chg hc2 hts hold
    | tupc cs => rw [hcs] at hold; exact CtRep.chg (st := st) hc2 hts hold (fun q u hq => by simp [Ct.refs] at hq)
    | siter s' pos => rw [hcs] at hold; exact CtRep.chg (st := st) hc2 hts hold (fun q u hq => by simp [Ct.refs] at hq)
    | dead => trivial
  refine ⟨v, ω2, he, hc2.mono (fun o ho e => by subst e; simp [isBoxO] at ho), hRel.putO hd ?_⟩
  intro t ht
  subst ht
  refine resC_ok hr (fun i x u hx hu => ?_)
  obtain ⟨x1, x2⟩ := x
  cases x1 with
  | none => exact Rep.relabel hn2 hu
  | some sz => exact OwnRep.relab hn2 hr2 hu

/-- A call of a function that turns boxes. -/
def callBP (P : Program) (st : St) (dst : Option Tmp) (f : Operand) (xs : List Operand) (K : St → Prop) : Prop :=
  match fnOf st f with
  | none => False
  | some (g, cs) => match shvs (retOs st xs) xs with
    | some ms => ∃ r B', SpecB P g (ms.map MV.top ++ cs) (retOs st xs).B r B' ∧ K (putO ⟨killB (retOs st xs).v, B'⟩ dst (resC r))
    | none => False

theorem callB_ok {P : Program} {γ : List Nat} {ω : Own} {w : World} {nt : Nat} {st : St} {a : Act} (h : Rel γ ω w nt st a) {o : Oper} (hd : dOk o.dst nt) {c : Call} (ho : o.op = .call c) {f : Operand} (hcal : c.callee = .value f) {K : St → Prop} (hx : callBP P st o.dst f c.args.toList K) (Q : Exit → Act → World → Prop) :
    o.wp P a w (fun a' w' => ∃ γ' ω' st', Chg NotOuter γ ω w γ' ω' w' ∧ Rel γ' ω' w' nt st' a' ∧ K st') Q := by
  have hd' := dOk_iff hd
  obtain ⟨callee, args, argTypes⟩ := c
  simp only at hcal hx
  subst hcal
  unfold callBP at hx
  split at hx
  · exact hx.elim
  rename_i g cs hf
  obtain ⟨vs, hfe, hvl, hvr⟩ := fnOf_ok h hf
  split at hx
  · rename_i ms2 hms2
    obtain ⟨r, B', hs, hK⟩ := hx
    have hexec : (execOp a.eval o).run P w = .ok (.enter g (args.toList.map a.eval ++ vs).toArray) w := by
      have e' : args.map a.eval = (args.toList.map a.eval).toArray := Array.ext' (by simp)
      simp [execOp, ho, resolve, hfe, Deferred.ofValue, invoke, e', hs.1]
    obtain ⟨ω1, hcg, hR⟩ := Rel.retOs args.toList h
    obtain ⟨h1, h2⟩ := shvs_rep hR hms2
    have hcalls := call_coreB hR hs (args.toList.map a.eval ++ vs) (by have := h1; simp at this; simp [this, hvl]) o.dst hd' (app_get (by simpa using h1) (fun i c v hc hv => by
      rw [List.getElem?_map] at hc
      cases hm : ms2[i]? with
      | none => rw [hm] at hc; simp at hc
      | some m =>
        rw [hm] at hc; simp at hc; subst hc
        exact (h2 i m v hm hv).top) (fun i c v hc hv => ((hvr i c v hc hv).chg hcg)))
    unfold Oper.wp
    rw [hexec, Oper.upon_enter]
    refine hcalls.mono ?_
    rintro e w' ⟨v, ω', rfl, h1, h2⟩
    exact ⟨γ, ω', _, hcg.trans h1, h2, hK⟩
  · exact hx.elim

end Go.Pv

end M19
section M19b
/- A library of this session: strings become rows of bytes. -/
set_option linter.unusedVariables false
set_option linter.unusedSimpArgs false
namespace Go.Pv

/-- The row of a string's bytes. -/
def byteRow (s : ByteArray) : List (List MV) := s.data.toList.map fun b => [.int .u8 (b.toNat : Int)]

theorem byteRow_len (s : ByteArray) : (byteRow s).length = s.size := by simp [byteRow]

theorem byteRow_get (s : ByteArray) (i : Nat) : (byteRow s)[i]? = (s.data.toList[i]?).map fun b => [.int .u8 (b.toNat : Int)] := by simp [byteRow]

section
variable {P : Program} {γ : List Nat} {ω : Own} {w : World} {nt : Nat} {st : St} {a : Act}

def strB (P : Program) (st : St) (d : Nat) (s T : TypeId) (x : Operand) (K : St → Prop) : Prop :=
  match kdOf P T with
  | .slice e => kdOf P e = .int .u8 ∧ kdOf P s = .str ∧ (match opv st x with
    | some (.str b) => K (st.put d (.sh (.list (byteRow b))))
    | _ => False)
  | _ => False

theorem strB_ok (h : Rel γ ω w nt st a) {d : Nat} (hd : d < nt) {s T : TypeId} {x : Operand} {K : St → Prop} (hx : strB P st d s T x K) :
    ∃ v w', (convert s T (a.eval x)).run P w = .ok v w' ∧ ∃ γ' ω' st', Chg NotOuter γ ω w γ' ω' w' ∧ Rel γ' ω' w' nt st' (a.put (some d) v) ∧ K st' := by
  unfold strB at hx
  split at hx
  · rename_i e hk
    obtain ⟨d1, hd1, hkd1⟩ := und_of_kd hk (by simp)
    have := tk_slice hkd1; subst this
    obtain ⟨he, hs, hx⟩ := hx
    obtain ⟨d2, hd2, hkd2⟩ := und_of_kd he (by simp)
    have := tk_int hkd2; subst this
    obtain ⟨d3, hd3, hkd3⟩ := und_of_kd hs (by simp)
    have := tk_str hkd3; subst this
    split at hx
    · rename_i b hb
      have e1 := (h.val hb).str
      have hr := run_bytes_of_string (P := P) w s T e b hd3 hd1 hd2
      have hge := grownCap_ge w b.size 0 e
      generalize grownCap w b.size 0 e = cap at hr hge
      have hc0 : Chg (fun _ => False) γ ω w γ ω w.drew := ⟨rfl, rfl, rfl, Nat.le_refl _, fun _ _ h => h, fun _ _ h => ⟨rfl, h⟩, fun _ _ _ h _ => ⟨rfl, h⟩⟩
      obtain ⟨hcg, hlt'⟩ := alloc_chg γ ω w.drew h.lt (.cells (bytesRow b cap) e ((bytesRow b cap).size, (bytesRow b cap).size + 1)) none
      have hc := hc0.trans hcg
      have hR := h.grow hc hlt'
      refine ⟨_, _, by rw [e1]; exact hr, γ, _, _, hc.mono (fun _ h => h.elim), hR.put hd (c := .sh (.list (byteRow b))) ?_, hx⟩
      have hl := byteRow_len b
      show Rep γ _ _ (.list (byteRow b)) (.slice _ b.size _)
      rw [← hl]
      refine .list (byteRow b) 1 w.heap.size 0 _ (fun j i => .int .u8 ((b.data.getD j 0).toNat : Int)) ?_ ?_ (by simp) ?_ ?_ ?_
      · rw [hl]; omega
      · exact if_pos rfl
      · intro x hx; simp [byteRow] at hx; obtain ⟨_, _, rfl⟩ := hx; rfl
      · intro j x hj i c hi
        rw [byteRow_get] at hj
        cases hb2 : b.data.toList[j]? with
        | none => rw [hb2] at hj; simp at hj
        | some y =>
          rw [hb2] at hj
          simp only [Option.map_some, Option.some.injEq] at hj
          subst hj
          cases i with
          | succ i => simp at hi
          | zero =>
            refine ⟨?_, rfl⟩
            have hlt := (List.getElem?_eq_some_iff.1 hb2).1
            rw [show (w.drew.alloc (.cells (bytesRow b cap) e ((bytesRow b cap).size, (bytesRow b cap).size + 1))).cell? ⟨w.heap.size, 0 + (j * 1 + 0), none⟩ = (bytesRow b cap)[0 + (j * 1 + 0)]? from World.cell?_alloc_mark w.drew _ _ _ _]
            simp only [Array.length_toList] at hlt
            have hy : b.data[j] = y := by
              have := (List.getElem?_eq_some_iff.1 hb2).2; simpa using this
            have hs2 : j < b.size := hlt
            simp [bytesRow, Array.getElem?_append, hlt, hy, hs2]
      · intro j x hj i c hi
        rw [byteRow_get] at hj
        cases hb2 : b.data.toList[j]? with
        | none => rw [hb2] at hj; simp at hj
        | some y =>
          rw [hb2] at hj
          simp only [Option.map_some, Option.some.injEq] at hj
          subst hj
          cases i with
          | succ i => simp at hi
          | zero =>
            simp at hi; subst hi
            have hlt := (List.getElem?_eq_some_iff.1 hb2).1
            simp only [Array.length_toList] at hlt
            have hy : b.data[j] = y := by
              have := (List.getElem?_eq_some_iff.1 hb2).2; simpa using this
            simp only [Array.getD_eq_getD_getElem?, Array.getElem?_eq_getElem hlt, Option.getD_some, hy]
            exact .int _ _
    · exact hx.elim
  · exact hx.elim
end
end Go.Pv

end M19b
section M20
/- A library of this session: one operation. -/
set_option linter.unusedVariables false
set_option linter.unusedSimpArgs false
namespace Go.Pv

def memN : List Nat → Nat → Bool
  | [], _ => false
  | a :: r, s => if a = s then true else memN r s

section
variable {P : Program} {γ : List Nat} {ω : Own} {w : World} {nt : Nat} {st : St} {a : Act}

/-- A call: by one of the contracts. -/
def calP (P : Program) (st : St) (dst : Option Tmp) (f : Operand) (xs : List Operand) (K : St → Prop) : Prop := callP P st dst f xs K ∨ callBP P st dst f xs K

theorem calP_lent {dst : Option Tmp} {f : Operand} {xs : List Operand} {K : St → Prop} {g : FuncId} {cs ms : List MV} {r : Res} (hf : fnOf st f = some (g, cs)) (hms : opvs st xs = some ms) (hs : Spec P g (ms ++ cs) r) (hfl : flatR r = true) (hK : K (putO st dst (resC r))) : calP P st dst f xs K := by
  refine .inl ?_
  unfold callP
  rw [hf]; simp only [hms]
  exact .inl ⟨r, hs, hfl, hK⟩

theorem calP_ret {dst : Option Tmp} {f : Operand} {xs : List Operand} {K : St → Prop} {g : FuncId} {cs ms ms' : List MV} {r : Res} (hf : fnOf st f = some (g, cs)) (hms : opvs st xs = some ms') (hsv : shvs (retOs st xs) xs = some ms) (hs : Spec P g (ms.map MV.top ++ cs) r) (hK : K (putO (retOs st xs) dst (resC r))) : calP P st dst f xs K := by
  refine .inl ?_
  unfold callP
  rw [hf]; simp only [hms, hsv]
  exact .inr ⟨r, _, .inl rfl, hs, hK⟩

/-- As calP_ret, where nil is handed over as nil. -/
theorem calP_nil {dst : Option Tmp} {f : Operand} {xs : List Operand} {K : St → Prop} {g : FuncId} {cs ms ms' : List MV} {r : Res} (hf : fnOf st f = some (g, cs)) (hms : opvs st xs = some ms') (hsv : shvs (retOs st xs) xs = some ms) (hs : Spec P g (ms ++ cs) r) (hK : K (putO (retOs st xs) dst (resC r))) : calP P st dst f xs K := by
  refine .inl ?_
  unfold callP
  rw [hf]; simp only [hms, hsv]
  exact .inr ⟨r, _, .inr rfl, hs, hK⟩

theorem calP_box {dst : Option Tmp} {f : Operand} {xs : List Operand} {K : St → Prop} {g : FuncId} {cs ms : List MV} {r : Res} {B' : List (Option (List Ct))} (hf : fnOf st f = some (g, cs)) (hsv : shvs (retOs st xs) xs = some ms) (hs : SpecB P g (ms.map MV.top ++ cs) (retOs st xs).B r B') (hK : K (putO ⟨killB (retOs st xs).v, B'⟩ dst (resC r))) : calP P st dst f xs K := by
  refine .inr ?_
  unfold callBP
  rw [hf]; simp only [hsv]
  exact ⟨r, B', hs, hK⟩

def stoP (P : Program) (st : St) (T : TypeId) (ad x : Operand) (K : St → Prop) : Prop :=
  match ad with
  | .tmp t => match lk st.v t with
    | .eadr p i off => stoE P st T p i off x K
    | .sh (.ptr _ _) => stoB P st T (.tmp t) x K
    | _ => False
  | _ => False

def opP (P : Program) (nt : Nat) (fz : List Nat) (o : Oper) (st : St) (K : St → Prop) : Prop :=
  dOk o.dst nt ∧ (match o.op with
    | .assign x => match o.dst with
      | some d => asgP P st o.type d x K
      | none => False
    | .call c => match c.callee with
      | .value f => calP P st o.dst f c.args.toList K
      | .builtin .append => match o.dst with
        | some d => appP P st d c K
        | none => False
      | _ => pureP P st (.call c) (fun ct => K (putO st o.dst ct))
    | .makeSlice T l c => match o.dst with
      | some d => mkP P st d T l c K
      | none => False
    | .buildSlice T len parts => match o.dst with
      | some d => bsP P st d T len parts.toList K
      | none => False
    | .build T parts => bldP P st o.dst T parts.toList K
    | .box T x => boxP (match o.dst with | some d => memN fz d | none => false) st o.dst x K
    | .alloc T => aloP P (match o.dst with | some d => memN fz d | none => false) st o.dst T K
    | .store T ad x => o.dst = none ∧ stoP P st T ad x K
    | .convert s T x => (match o.dst, opv st x, kdOf P T with
      | some d, some (.str _), .slice _ => strB P st d s T x K
      | _, _, _ => pureP P st (.convert s T x) (fun ct => K (putO st o.dst ct)))
    | op => pureP P st op (fun ct => K (putO st o.dst ct)))

theorem op_pure (h : Rel γ ω w nt st a) {o : Oper} (hd : dOk o.dst nt) {K : St → Prop} (hx : pureP P st o.op (fun ct => K (putO st o.dst ct))) (Q : Exit → Act → World → Prop) :
    o.wp P a w (fun a' w' => ∃ γ' ω' st', Chg NotOuter γ ω w γ' ω' w' ∧ Rel γ' ω' w' nt st' a' ∧ K st') Q := by
  obtain ⟨c, v, h1, h2, h3⟩ := pure_ok h hx
  unfold Oper.wp
  rw [h1, Oper.upon_value]
  exact ⟨γ, ω, _, Chg.refl _ _ _ _, h.putO (dOk_iff hd) (fun t _ => h2 _), h3⟩

theorem op_ok (h : Rel γ ω w nt st a) {fz : List Nat} {o : Oper} {K : St → Prop} (hx : opP P nt fz o st K) (Q : Exit → Act → World → Prop) :
    o.wp P a w (fun a' w' => ∃ γ' ω' st', Chg NotOuter γ ω w γ' ω' w' ∧ Rel γ' ω' w' nt st' a' ∧ K st') Q := by
  obtain ⟨hd, hx⟩ := hx
  have hdi := dOk_iff hd
  split at hx
  · rename_i x hop
    split at hx
    · rename_i d hdst
      have hdn : d < nt := hdi d hdst
      obtain ⟨ω', st', h1, h2, h3⟩ := asg_ok h hdn hx
      unfold Oper.wp
      have : (execOp a.eval o).run P w = .ok (.value (a.eval x)) w := by simp [execOp, hop]
      rw [this, Oper.upon_value, hdst]
      exact ⟨γ, ω', st', h1, h2, h3⟩
    · exact hx.elim
  · rename_i c hop
    split at hx
    · rename_i f hcal
      rcases hx with hx | hx
      · exact call_ok h hd hop hcal hx Q
      · exact callB_ok h hd hop hcal hx Q
    · rename_i hcal
      split at hx
      · rename_i d hdst
        have hdn : d < nt := hdi d hdst
        obtain ⟨v, w', hrun, γ', ω', st', h1, h2, h3⟩ := app_ok h hdn hx o.type
        unfold Oper.wp
        have : (execOp a.eval o).run P w = .ok (.value v) w' := by
          obtain ⟨callee, args, argTypes⟩ := c
          simp only at hcal; subst hcal
          simp only at hrun
          simp [execOp, hop, resolve, invoke, builtin, hrun]
        rw [this, Oper.upon_value, hdst]
        exact ⟨γ', ω', st', h1, h2, h3⟩
      · exact hx.elim
    · rw [← hop] at hx; exact op_pure h hd hx Q
  · rename_i T l c hop
    split at hx
    · rename_i d hdst
      obtain ⟨v, w', hrun, γ', ω', st', h1, h2, h3⟩ := mk_ok h (hdi d hdst) hx
      unfold Oper.wp
      have : (execOp a.eval o).run P w = .ok (.value v) w' := by simp [execOp, hop, hrun]
      rw [this, Oper.upon_value, hdst]
      exact ⟨γ', ω', st', h1, h2, h3⟩
    · exact hx.elim
  · rename_i T len parts hop
    split at hx
    · rename_i d hdst
      obtain ⟨v, w', hrun, γ', ω', st', h1, h2, h3⟩ := bs_ok h (hdi d hdst) hx
      unfold Oper.wp
      have : (execOp a.eval o).run P w = .ok (.value v) w' := by simp [execOp, hop, hrun]
      rw [this, Oper.upon_value, hdst]
      exact ⟨γ', ω', st', h1, h2, h3⟩
    · exact hx.elim
  · rename_i T parts hop
    obtain ⟨v, hrun, ω', st', h1, h2, h3⟩ := bld_ok h hdi hx
    unfold Oper.wp
    have : (execOp a.eval o).run P w = .ok (.value v) w := by simp [execOp, hop, hrun]
    rw [this, Oper.upon_value]
    exact ⟨γ, ω', st', h1, h2, h3⟩
  · rename_i T x hop
    obtain ⟨v, w', hrun, γ', ω', st', h1, h2, h3⟩ := box_ok (P := P) h hdi (T := T) hx
    unfold Oper.wp
    have : (execOp a.eval o).run P w = .ok (.value v) w' := by simp [execOp, hop, hrun]
    rw [this, Oper.upon_value]
    exact ⟨γ', ω', st', h1, h2, h3⟩
  · rename_i T hop
    obtain ⟨v, w', hrun, γ', ω', st', h1, h2, h3⟩ := alo_ok h hdi hx
    unfold Oper.wp
    have : (execOp a.eval o).run P w = .ok (.value v) w' := by simp [execOp, hop, hrun]
    rw [this, Oper.upon_value]
    exact ⟨γ', ω', st', h1, h2, h3⟩
  · rename_i T ad x hop
    obtain ⟨hdn, hx⟩ := hx
    have key : ∃ w', (Instr.storeAt T (a.eval ad) (a.eval x)).run P w = .ok () w' ∧ ∃ ω' st', Chg NotOuter γ ω w γ ω' w' ∧ Rel γ ω' w' nt st' a ∧ K st' := by
      unfold stoP at hx
      split at hx
      · rename_i t
        split at hx
        · rename_i p i off hc
          exact stoE_ok h hc hx
        · exact stoB_ok h hx
        · exact hx.elim
      · exact hx.elim
    obtain ⟨w', hrun, ω', st', h1, h2, h3⟩ := key
    unfold Oper.wp
    have : (execOp a.eval o).run P w = .ok .skip w' := by simp [execOp, hop, hrun]
    rw [this]
    simp only [Oper.upon, hdn]
    exact ⟨γ, ω', st', h1, h2, h3⟩
  · rename_i s T x hop
    split at hx
    · rename_i d _ _ hdst _ _
      obtain ⟨v, w', hrun, γ', ω', st', h1, h2, h3⟩ := strB_ok h (hdi d hdst) hx
      unfold Oper.wp
      have : (execOp a.eval o).run P w = .ok (.value v) w' := by simp [execOp, hop, hrun]
      rw [this, Oper.upon_value, hdst]
      exact ⟨γ', ω', st', h1, h2, h3⟩
    · rw [← hop] at hx; exact op_pure h hd hx Q
  · exact op_pure h hd hx Q

end
end Go.Pv

end M20
