/- A library of this session: append; contracts; calls. -/
import Derived.Test.YtoakchnegkmepaaM9
set_option linter.unusedVariables false
set_option linter.unusedSimpArgs false
namespace Go.Pv

theorem Rep.relabel {γ : List Nat} {ω ω' : Own} {w : World} (hω : ∀ b, ω b = none → ω' b = none) {m : MV} {v : Value} (h : Rep γ ω w m v) : Rep γ ω' w m v := by
  induction h with
  | bool b => exact .bool b
  | int k n => exact .int k n
  | str s => exact .str s
  | agg cs vs hl _ h1 ih => exact .agg cs vs hl ih h1
  | tup cs vs hl _ ih => exact .tup cs vs hl ih
  | list es sz blk o cap us hcap hω' hlt hsz hcell _ ih => exact .list es sz blk o cap us hcap (hω _ hω') hlt hsz hcell ih
  | list0 a cap => exact .list0 a cap
  | nil => exact .nil
  | fn f cs vs hl _ ih => exact .fn f cs vs hl ih
  | nilfn => exact .nilfn
  | ptr b off blk hb => exact .ptr b off blk hb
  | cptr cs off blk o us hω' hlt hcell _ ih => exact .cptr cs off blk o us (hω _ hω') hlt hcell ih
  | nilptr => exact .nilptr
  | map m blk es clock hω' hb hl hk _ hlt hbn hnd ih => exact .map m blk es clock (hω _ hω') hb hl hk ih hlt hbn hnd
  | map0 => exact .map0
  | ifc t c v _ ih => exact .ifc t c v ih
  | nilifc => exact .nilifc

/-! ### The cells of a list, wherever it lies -/
theorem cells_append {γ : List Nat} {ω : Own} {w : World} {sz : Nat} {es fs : List (List MV)} {xs ys : List Value} (h : Cells γ ω w sz es xs) (k : Cells γ ω w sz fs ys) : Cells γ ω w sz (es ++ fs) (xs ++ ys) := by
  refine ⟨by simp [h.len, k.len, Nat.add_mul], ?_, ?_, ?_⟩
  · intro e he
    rcases List.mem_append.1 he with he | he
    · exact h.wid e he
    · exact k.wid e he
  · intro u hu
    rcases List.mem_append.1 hu with hu | hu
    · exact h.one u hu
    · exact k.one u hu
  · intro j e hj i c hi
    rcases Nat.lt_or_ge j es.length with hl | hl
    · rw [List.getElem?_append_left hl] at hj
      obtain ⟨u, hu, hr⟩ := h.rep j e hj i c hi
      exact ⟨u, by rw [List.getElem?_append_left (List.getElem?_eq_some_iff.1 hu).1]; exact hu, hr⟩
    · rw [List.getElem?_append_right hl] at hj
      obtain ⟨u, hu, hr⟩ := k.rep (j - es.length) e hj i c hi
      refine ⟨u, ?_, hr⟩
      rw [List.getElem?_append_right (by rw [h.len]; have := Nat.mul_le_mul_right sz hl; omega)]
      rw [show j * sz + i - xs.length = (j - es.length) * sz + i from by
        rw [h.len, Nat.sub_mul]; have := Nat.mul_le_mul_right sz hl; omega]
      exact hu

theorem flat_get {sz : Nat} (hsz : 0 < sz) (us : Nat → Nat → Value) (n j i : Nat) (hj : j < n) (hi : i < sz) : ((List.range (n * sz)).map fun q => us (q / sz) (q % sz))[j * sz + i]? = some (us j i) := by
  have hlt : j * sz + i < n * sz := by
    have : (j + 1) * sz ≤ n * sz := Nat.mul_le_mul_right _ hj
    rw [Nat.add_mul, Nat.one_mul] at this; omega
  rw [List.getElem?_map, List.getElem?_range hlt]
  simp only [Option.map_some]
  have e1 : (j * sz + i) / sz = j := by
    rw [Nat.add_comm, Nat.add_mul_div_right _ _ hsz, Nat.div_eq_of_lt hi, Nat.zero_add]
  have e2 : (j * sz + i) % sz = i := by
    rw [Nat.add_comm, Nat.add_mul_mod_self_right, Nat.mod_eq_of_lt hi]
  rw [e1, e2]

theorem val_cells {γ : List Nat} {ω : Own} {w : World} {ys : List (List MV)} {u : Value} (h : Val γ ω w (.list ys) u) {sz : Nat} (hsz : 0 < sz) (hy : ∀ y ∈ ys, y.length = sz) :
    ∃ A c news, u = .slice A ys.length c ∧ Cells γ ω w sz ys news ∧ (ys ≠ [] → ∃ b o, A = some ⟨b, o, none⟩ ∧ ∀ (j : Nat) (x : Value), news[j]? = some x → w.cell? ⟨b, o + j, none⟩ = some x) := by
  by_cases hnil : ys = []
  · subst hnil
    obtain ⟨A, cap, rfl⟩ := h.list
    exact ⟨A, cap, [], rfl, ⟨by simp, by simp, by simp, by simp⟩, fun h => absurd rfl h⟩
  · -- the cells, one by one
    have key : ∀ (b o cap : Nat) (us : Nat → Nat → Value), (∀ (j : Nat) (e : List MV), ys[j]? = some e → ∀ (i : Nat) (c : MV), e[i]? = some c → w.cell? ⟨b, o + (j * sz + i), none⟩ = some (us j i) ∧ (us j i).oneCell' = true ∧ Rep γ ω w c (us j i)) →
        u = .slice (some ⟨b, o, none⟩) ys.length cap → ∃ A c news, u = .slice A ys.length c ∧ Cells γ ω w sz ys news ∧ (ys ≠ [] → ∃ b o, A = some ⟨b, o, none⟩ ∧ ∀ (j : Nat) (x : Value), news[j]? = some x → w.cell? ⟨b, o + j, none⟩ = some x) := by
      intro b o cap us hus hu
      have hall : ∀ q, q < ys.length * sz → ∃ (e : List MV) (c : MV), ys[q / sz]? = some e ∧ e[q % sz]? = some c := by
        intro q hq
        have h1 : q / sz < ys.length := Nat.div_lt_of_lt_mul (by rw [Nat.mul_comm]; exact hq)
        refine ⟨ys[q / sz], ?_⟩
        have h2 : q % sz < (ys[q / sz]).length := by rw [hy _ (List.getElem_mem h1)]; exact Nat.mod_lt _ hsz
        exact ⟨(ys[q / sz])[q % sz], List.getElem?_eq_getElem h1, List.getElem?_eq_getElem h2⟩
      refine ⟨_, cap, (List.range (ys.length * sz)).map fun q => us (q / sz) (q % sz), hu, ⟨by simp, hy, ?_, ?_⟩, fun _ => ⟨b, o, rfl, ?_⟩⟩
      · intro v hv
        simp only [List.mem_map, List.mem_range] at hv
        obtain ⟨q, hq, rfl⟩ := hv
        obtain ⟨e, c, h1, h2⟩ := hall q hq
        exact (hus _ e h1 _ c h2).2.1
      · intro j e hj i c hi
        have hjl := (List.getElem?_eq_some_iff.1 hj).1
        have hil : i < sz := by rw [← hy e (List.mem_of_getElem? hj)]; exact (List.getElem?_eq_some_iff.1 hi).1
        exact ⟨us j i, flat_get hsz us _ j i hjl hil, (hus j e hj i c hi).2.2⟩
      · intro q x hq
        obtain ⟨hq1, hq2⟩ := range_map hq
        subst hq2
        obtain ⟨e, c, h1, h2⟩ := hall q hq1
        have := (hus _ e h1 _ c h2).1
        rw [Nat.div_add_mod' q sz] at this
        exact this
    rcases h with h | ⟨o', sz', h⟩
    · cases h with
      | list _ sz0 blk o cap us hcap hω hlt hsz0 hcell hrep =>
        have e0 : sz0 = sz := by
          cases ys with
          | nil => exact absurd rfl hnil
          | cons y r => rw [← hsz0 y (by simp), hy y (by simp)]
        subst e0
        exact key blk o cap us (fun j e hj i c hi => ⟨(hcell j e hj i c hi).1, (hcell j e hj i c hi).2, hrep j e hj i c hi⟩) rfl
      | list0 => exact absurd rfl hnil
    · obtain ⟨blk, cap, hvb, hve⟩ := own_some h (List.length_pos_iff.2 hnil)
      obtain ⟨cap', h1, h2, h3, us, hus⟩ := own_cells h hvb
      have e0 : sz' = sz := by
        cases ys with
        | nil => exact absurd rfl hnil
        | cons y r => rw [← (hus 0 y rfl).1, hy y (by simp)]
      subst e0
      exact key blk 0 cap us (fun j e hj i c hi => by rw [Nat.zero_add]; exact (hus j e hj).2 i c hi) hve

/-! ### append -/
theorem run_app_types {P : Program} {w : World} {T T' ty e e' : TypeId} {A A' : Option Addr} {n c n' c' : Nat} (h : P.underlying T = some (.slice e)) (h' : P.underlying T' = some (.slice e')) :
    (Builtin.append_ #[T, T'] ty #[.slice A n c, .slice A' n' c']).run P w = (Builtin.append_ #[T, T] ty #[.slice A n c, .slice A' n' c']).run P w := by
  simp [Builtin.append_, run_underlying h, run_underlying h']

theorem run_app_nil {P : Program} {w : World} {T ty e : TypeId} {A' : Option Addr} {n' c' : Nat} {A : Option Addr} {c : Nat} (h : P.underlying T = some (.slice e)) (hle : n' ≤ c') :
    (Builtin.append_ #[T, T] ty #[.slice A' n' c', .slice A 0 c]).run P w = (Builtin.append_ #[T, T] ty #[.slice A' n' c', .slice (some ⟨0, 0, none⟩) 0 c]).run P w := by
  cases A <;> simp [Builtin.append_, run_underlying h, Builtin.lenOf, Builtin.firstCells, loadCells, loadCellsFrom, hle]

theorem run_app_room {P : Program} {w : World} (t ty e e' : TypeId) (i : TypeInfo) (ht : P.underlying t = some (.slice e)) (hi : P.info? e = some i)
    (g sLen sCap : Nat) (cur : Array Value) (hg : w.heap[g]? = some (.cells cur e' (0, 0)))
    (a : Addr) (m c : Nat) (news : List Value) (hl : news.length = m * i.size) (hnews : ∀ j u, news[j]? = some u → w.cell? (a.add j) = some u) (h1 : ∀ u ∈ news, u.oneCell' = true)
    (hroom : sLen + m ≤ sCap) (hfit : sLen * i.size + news.length ≤ cur.size) :
    (Builtin.append_ #[t, t] ty #[.slice (some ⟨g, 0, none⟩) sLen sCap, .slice (some a) m c]).run P w =
      .ok (.slice (some ⟨g, 0, none⟩) (sLen + m) sCap) (w.setRow g (cur.toList.take (sLen * i.size) ++ news ++ cur.toList.drop (sLen * i.size + news.length)).toArray) := by
  have hf := run_firstCells_some (P := P) w i.size m a m c news hl hnews
  have hst := run_storeCells_at P g (sLen * i.size) e' news 0 cur w hg (by simpa using hfit) h1
  simp only [Nat.add_zero] at hst
  simp [Builtin.append_, run_underlying ht, sizeOf, typeInfo, hi, Builtin.lenOf, hroom, hf, Addr.add_lit, hst]

theorem run_app {P : Program} {w : World} (t ty e e' : TypeId) (i : TypeInfo) (z : Value) (ht : P.underlying t = some (.slice e)) (hi : P.info? e = some i) (hz : i.zero = some z)
    (hzs : z.cells.size = i.size) (hsz : 0 < i.size)
    (v : Value) (n : Nat) (xs : List Value) (hown : w.ownsRow 0 e' i.size v n xs)
    (a : Addr) (m c : Nat) (news : List Value) (hl : news.length = m * i.size) (hnews : ∀ j u, news[j]? = some u → w.cell? (a.add j) = some u) (h1 : ∀ u ∈ news, u.oneCell' = true)
    (h63 : n + m ≤ maxLen) (hbytes : (n + m) * i.bytes ≤ 140737488355328) :
    ∃ v' w' e'', (Builtin.append_ #[t, t] ty #[v, .slice (some a) m c]).run P w = .ok v' w' ∧ w'.ownsRow 0 e'' i.size v' (n + m) (xs ++ news) ∧ w.grownBy w' v.ownBlock ∧
      (∀ b, v'.ownBlock = some b → v.ownBlock = some b ∨ w.heap.size ≤ b) := by
  by_cases hroom : ∃ g cap, v = .slice (some ⟨g, 0, none⟩) n cap ∧ n + m ≤ cap
  · obtain ⟨g, cap, rfl, hr⟩ := hroom
    rcases hown.2 with ⟨h0, _⟩ | ⟨g', cap', cur, heq, hbg, hg, hnc, hcm, hcs, htake⟩
    · exact absurd h0 (by simp)
    · injection heq with h2 _ h3
      injection h2 with h2; injection h2 with h2 _ _
      subst h2; subst h3
      have hfit : n * i.size + news.length ≤ cur.size := by rw [hl, hcs, ← Nat.add_mul]; exact Nat.mul_le_mul_right _ hr
      have hrun := run_app_room (P := P) t ty e e' i ht hi g n cap cur hg a m c news hl hnews h1 hr hfit
      have hlen : (xs ++ news).length = (n + m) * i.size := by rw [List.length_append, hown.1, hl, Nat.add_mul]
      refine ⟨_, _, e', hrun, ⟨hlen, .inr ⟨g, cap, _, rfl, hbg, setRow_heap w g cur _ e' _ hg, hr, hcm, ?_, ?_⟩⟩, ⟨rfl, rfl, rfl, by simp, fun k _ hk => setRow_other w g k _ (fun e => hk (by simp [Value.ownBlock, e]))⟩, fun b hb => .inl hb⟩
      · simp only [List.size_toArray, List.length_append, List.length_take, List.length_drop, Array.length_toList]
        omega
      · rw [htake, ← hlen]
        exact List.take_left
  · -- a new row, whatever the old one's type says
    have hown2 : ∃ w0 : World, True := ⟨w, trivial⟩
    rcases hown.2 with ⟨rfl, rfl⟩ | ⟨g, cap, cur, rfl, hbg, hg, hnc, hcm, hcs, htake⟩
    · have hx : xs = [] := List.eq_nil_of_length_eq_zero (by simpa using hown.1)
      subst hx
      obtain ⟨v', w', hr, h2, h3, h4⟩ := run_append_own (P := P) w 0 t ty e i z i.size i.bytes ht hi hz rfl rfl hzs hsz (.slice none 0 0) 0 [] (World.ownsRow_nil w 0 e i.size) a m c news hl hnews h1 h63 hbytes (Nat.zero_le _)
      refine ⟨v', w', e, hr, h2, h3, fun b hb => .inr ?_⟩
      rcases h2.2 with ⟨rfl, _⟩ | ⟨g, cap, cur, rfl, _, hg, _⟩
      · simp [Value.ownBlock] at hb
      · simp [Value.ownBlock] at hb
        subst hb
        rcases Nat.lt_or_ge g w.heap.size with hlt | hge
        · exfalso
          -- the value is new: of an elder block nothing is told; it is the one that append made
          have hn : ¬ (0 + m = 0) := by
            intro h0
            have hm : m = 0 := by omega
            subst hm
            have := h4.2 ⟨rfl, rfl⟩
            exact absurd this (by simp)
          have hmpos : 0 < m := by omega
          have hrn := run_append_nil (P := P) w t ty e i z ht hi hz a m c news hl hnews hmpos (by simp only [maxLen] at h63; omega) (by simp only [Nat.zero_add] at hbytes; omega)
          rw [hr] at hrn
          injection hrn with hv _
          injection hv with hv _ _
          injection hv with hv
          injection hv with hv _ _
          omega
        · exact hge
    · have hnr : cap < n + m := by
        rcases Nat.lt_or_ge cap (n + m) with h | h
        · exact h
        · exact absurd ⟨g, cap, rfl, h⟩ hroom
      have holds : ∀ j u, xs[j]? = some u → w.cell? ((⟨g, 0, none⟩ : Addr).add j) = some u := hown.cells (g := g) rfl
      have hr := run_append_grow (P := P) w t ty e i z ht hi hz ⟨g, 0, none⟩ n cap xs hown.1 holds a m c news hl hnews hnr (by simp only [maxLen] at h63; omega) (growslice_fits hnr hbytes)
      have hge := grownCap_ge w (n + m) cap e
      have hcm' : grownCap w (n + m) cap e ≤ maxLen := grownCap_le_maxLen w (n + m) cap e h63
      have hlen : (xs ++ news).length = (n + m) * i.size := by rw [List.length_append, hown.1, hl, Nat.add_mul]
      refine ⟨_, _, e, hr, ⟨hlen, .inr ⟨w.heap.size, _, _, rfl, Nat.zero_le _, heap_alloc_new w.drew _, hge, hcm', ?_, ?_⟩⟩, ⟨rfl, rfl, rfl, by simp, fun k hk _ => heap_alloc_old w.drew _ hk⟩, fun b hb => .inr ?_⟩
      · simp only [Array.size_append, List.size_toArray, size_zeroCells, hzs, hown.1, hl, ← Nat.add_mul]
        congr 1
        omega
      · simp only [Array.toList_append, List.append_assoc]
        rw [← List.append_assoc, ← hlen]
        exact List.take_left
      · simp [Value.ownBlock] at hb; omega

/-- What a place holds that is appended to. -/
def ownPl (st : St) : Operand → Option Place
  | .tmp t => match lk st.v t with
    | .own _ _ => some (.slot t)
    | .al p => some p
    | _ => none
  | _ => none

/-- Is an operand known as a nil slice? -/
def shNil (st : St) : Operand → Bool
  | .tmp t => match lk st.v t with
    | .sh .nil => true
    | _ => false
  | .const v => isNilC (.const v)
  | _ => false

def bytesT (P : Program) (T : TypeId) : Nat := match tiOf P T with | some ti => ti.bytes | none => 0

def appP (P : Program) (st : St) (d : Nat) (c : Call) (K : St → Prop) : Prop :=
  match c.args.toList, c.argTypes.toList with
  | [s, x], [T, T'] => match kdOf P T, kdOf P T' with
    | .slice e, .slice _ => match ownPl st s with
      | some p => match st.at p with
        | .own sz (.list es) => match opv st x with
          | some (.list ys) => sz = szOf P e ∧ 0 < sz ∧ (∀ y ∈ ys, y.length = sz) ∧ es.length + ys.length ≤ 1000000000 ∧ bytesT P e ≤ 100000 ∧ K ((st.spend p).put d (.own sz (.list (es ++ ys))))
          | _ => False
        | _ => False
      | none => match shNil st s, opv st x with
        | true, some (.list ys) => 0 < szOf P e ∧ (∀ y ∈ ys, y.length = szOf P e) ∧ ys.length ≤ 1000000000 ∧ bytesT P e ≤ 100000 ∧ K (st.put d (.own (szOf P e) (.list ys)))
        | _, _ => False
    | _, _ => False
  | _, _ => False

theorem zerosOf_len : ∀ {vs : List Value} {l : List MV}, zerosOf vs = some l → vs.length = l.length
  | [], l, h => by simp [zerosOf] at h; subst h; rfl
  | v :: r, l, h => by
    unfold zerosOf at h
    split at h
    · rename_i m l' hm hl; injection h with h; subst h; simp [zerosOf_len hl]
    · exact absurd h (by simp)

theorem ownPl_ok {γ : List Nat} {ω : Own} {w : World} {nt : Nat} {st : St} {a : Act} (h : Rel γ ω w nt st a) {x : Operand} {p : Place} (hp : ownPl st x = some p) {sz : Nat} {m : MV} (hat : st.at p = .own sz m) : p.cur γ a.tmps w (a.eval x) := by
  cases x with
  | tmp t =>
    simp only [ownPl] at hp
    split at hp
    · injection hp with hp; subst hp; exact rfl
    · rename_i q hc
      injection hp with hp; subst hp
      have := h.slots t
      rw [hc] at this
      exact this.2
    · exact absurd hp (by simp)
  | _ => simp [ownPl] at hp

/-- Cells appended to a row, whoever holds it. -/
theorem app_run {P : Program} {γ : List Nat} {ω : Own} {w : World} {T T' ty e e2 : TypeId} (hd1 : P.underlying T = some (.slice e)) (hd2 : P.underlying T' = some (.slice e2)) {sz : Nat} (hsz : sz = szOf P e) (hpos : 0 < sz) (hby : bytesT P e ≤ 100000)
    {es ys : List (List MV)} (hlen : es.length + ys.length ≤ 1000000000) (hyl : ∀ y ∈ ys, y.length = sz) {vs vx : Value} {e' : TypeId} {xs : List Value} (hr : w.ownsRow 0 e' sz vs es.length xs) (hcl : Cells γ ω w sz es xs) (hval : Val γ ω w (.list ys) vx) :
    ∃ v' w' e'' news, (Builtin.append_ #[T, T'] ty #[vs, vx]).run P w = .ok v' w' ∧ w'.ownsRow 0 e'' sz v' (es ++ ys).length (xs ++ news) ∧ Cells γ ω w sz (es ++ ys) (xs ++ news) ∧ w.grownBy w' vs.ownBlock ∧ (∀ b, v'.ownBlock = some b → (vs.ownBlock = some b ∨ w.heap.size ≤ b) ∧ b < w'.heap.size) := by
  obtain ⟨ti, hti, htsz⟩ := szOf_ne (P := P) (T := e) (by omega)
  have hT := ty_of hti
  obtain ⟨i, z, hi, hisz, hib, hiz, hz1, hz2, hz3⟩ := hT.info
  have hbt : bytesT P e = ti.bytes := by simp [bytesT, hti]
  have hzs : z.cells.size = i.size := by
    have := zerosOf_len hz1
    rw [Array.length_toList] at this; omega
  have hszi : sz = i.size := by omega
  subst hszi
  obtain ⟨A, cc, news, hu, hcn, hA⟩ := val_cells hval hpos hyl
  have hvs : ∃ A' c', vs = .slice A' es.length c' ∧ es.length ≤ c' := by
    rcases hr.2 with ⟨h1, h0⟩ | ⟨g, cap, cur, h1, _, _, h2, _⟩
    · exact ⟨none, 0, by rw [h1, h0], by omega⟩
    · exact ⟨_, cap, h1, h2⟩
  obtain ⟨A', c', hve, hle⟩ := hvs
  have hadr : ∃ ad : Addr, (∀ (j : Nat) (u : Value), news[j]? = some u → w.cell? (ad.add j) = some u) ∧
      (Builtin.append_ #[T, T] ty #[vs, vx]).run P w = (Builtin.append_ #[T, T] ty #[vs, .slice (some ad) ys.length cc]).run P w := by
    by_cases hny : ys = []
    · subst hny
      refine ⟨⟨0, 0, none⟩, fun j u hj => ?_, ?_⟩
      · have : news = [] := List.eq_nil_of_length_eq_zero (by simpa using hcn.len)
        rw [this] at hj; simp at hj
      · rw [hve, hu]; exact run_app_nil hd1 hle
    · obtain ⟨b, o, rfl, hcell⟩ := hA hny
      exact ⟨⟨b, o, none⟩, fun j u hj => by rw [Addr.add_lit]; exact hcell j u hj, by rw [hu]⟩
  obtain ⟨ad, hcell, heq⟩ := hadr
  have hb2 : (es.length + ys.length) * i.bytes ≤ 140737488355328 := by
    have h1 : i.bytes ≤ 100000 := by omega
    have : (es.length + ys.length) * i.bytes ≤ 1000000000 * 100000 := Nat.mul_le_mul hlen h1
    omega
  obtain ⟨v', w', e'', hrun, hown', hgr, hblk⟩ := run_app (P := P) (w := w) T ty e e' i z hd1 hi hiz hzs hpos vs es.length xs hr ad ys.length cc news hcn.len hcell hcn.one (by simp only [maxLen]; omega) hb2
  refine ⟨v', w', e'', news, ?_, by rw [List.length_append]; exact hown', cells_append hcl hcn, hgr, fun b hb => ⟨hblk b hb, ?_⟩⟩
  · have e2 : (Builtin.append_ #[T, T'] ty #[vs, vx]).run P w = (Builtin.append_ #[T, T] ty #[vs, vx]).run P w := by
      rw [hve, hu]; exact run_app_types hd1 hd2
    rw [e2, heq]; exact hrun
  · rcases hown'.2 with ⟨h1, _⟩ | ⟨g, cap, cur, h1, _, hg, _⟩
    · rw [h1] at hb; simp [Value.ownBlock] at hb
    · rw [h1] at hb; simp [Value.ownBlock] at hb; subst hb
      exact (Array.getElem?_eq_some_iff.1 hg).1

theorem shNil_ok {γ : List Nat} {ω : Own} {w : World} {nt : Nat} {st : St} {a : Act} (h : Rel γ ω w nt st a) {x : Operand} (hx : shNil st x = true) : a.eval x = .slice none 0 0 := by
  cases x with
  | tmp t =>
    simp only [shNil] at hx
    split at hx
    · rename_i hc
      have hr : Rep γ ω w .nil (a.eval (.tmp t)) := slot_rep h t hc
      generalize a.eval (.tmp t) = v at hr ⊢
      cases hr; rfl
    · exact absurd hx (by simp)
  | const v =>
    simp only [shNil] at hx
    unfold isNilC at hx
    split at hx
    · rename_i heq; cases heq; rfl
    · exact absurd hx (by simp)
  | _ => simp [shNil] at hx

theorem app_ok {P : Program} {γ : List Nat} {ω : Own} {w : World} {nt : Nat} {st : St} {a : Act} (h : Rel γ ω w nt st a) {d : Nat} (hd : d < nt) {c : Call} {K : St → Prop} (hx : appP P st d c K) (ty : TypeId) :
    ∃ v w' , (Builtin.append_ c.argTypes ty (c.args.map a.eval)).run P w = .ok v w' ∧ ∃ γ' ω' st', Chg NotOuter γ ω w γ' ω' w' ∧ Rel γ' ω' w' nt st' (a.put (some d) v) ∧ K st' := by
  obtain ⟨callee, args, argTypes⟩ := c
  unfold appP at hx
  simp only at hx ⊢
  split at hx
  · rename_i s x T T' hargs hat
    have hargs' : args = #[s, x] := by have := congrArg List.toArray hargs; simpa using this
    have hat' : argTypes = #[T, T'] := by have := congrArg List.toArray hat; simpa using this
    subst hargs'; subst hat'
    have e1 : #[s, x].map a.eval = #[a.eval s, a.eval x] := by simp
    rw [e1]
    split at hx
    · rename_i e e2 hk hk2
      obtain ⟨d1, hd1, hkd1⟩ := und_of_kd hk (by simp)
      have := tk_slice hkd1; subst this
      obtain ⟨d2, hd2, hkd2⟩ := und_of_kd hk2 (by simp)
      have := tk_slice hkd2; subst this
      split at hx
      · rename_i p hp
        split at hx
        · rename_i sz es hat
          split at hx
          · rename_i ys hys
            obtain ⟨hsz, hpos, hyl, hlen, hby, hK⟩ := hx
            have hcur := ownPl_ok h hp hat
            have hown := cur_own h hat hcur
            cases hown with
            | list _ _ e' xs hr hcl ho =>
              obtain ⟨v', w', e'', news, hrun, hown', hcells, hgr, hblk⟩ := app_run (P := P) (γ := γ) (ω := ω) (ty := ty) hd1 hd2 hsz hpos hby hlen hyl hr hcl (h.val hys)
              let ω' : Own := fun b => if v'.ownBlock = some b then some (.slot d) else ω b
              have hpo : ∀ b, (a.eval s).ownBlock = some b → ω b = some p.owner ∧ b < w.heap.size := ho
              have hnew : ∀ b, v'.ownBlock = some b → (ω b = some p.owner ∧ b < w.heap.size) ∨ w.heap.size ≤ b := fun b hb => by
                rcases (hblk b hb).1 with h1 | h1
                · exact .inl (hpo b h1)
                · exact .inr h1
              have hkeepb : ∀ b, b < w.heap.size → ω b ≠ some p.owner → w'.heap[b]? = w.heap[b]? := fun b hb hn => hgr.block b hb (fun e => hn (hpo b e.symm).1)
              have hcg : Chg (fun x => x = p.owner) γ ω w γ ω' w' := by
                refine ⟨hgr.os, hgr.tape, hgr.output, hgr.size, fun _ _ h => h, fun b hb h0 => ⟨hkeepb b hb (by rw [h0]; simp), ?_⟩, fun b o hb h0 hn => ⟨hkeepb b hb (by rw [h0]; intro e; injection e with e; exact hn e), ?_⟩⟩
                · simp only [ω']
                  split
                  · rename_i hvb
                    rcases hnew b hvb with ⟨h1, _⟩ | h1
                    · rw [h0] at h1; exact absurd h1 (by simp)
                    · omega
                  · exact h0
                · simp only [ω']
                  split
                  · rename_i hvb
                    rcases hnew b hvb with ⟨h1, _⟩ | h1
                    · rw [h0] at h1; injection h1 with h1; exact absurd h1 hn
                    · omega
                  · exact h0
              have hlt' : ∀ b, w'.heap.size ≤ b → ω' b = none := by
                intro b hb
                simp only [ω']
                split
                · rename_i hvb; have := (hblk b hvb).2; omega
                · exact h.lt b (Nat.le_trans hgr.size hb)
              have hne : p.owner ≠ .outer := by cases p <;> simp [Place.owner]
              have hR := h.spend hat hcg hlt'
              refine ⟨v', w', hrun, γ, ω', (st.spend p).put d (.own sz (.list (es ++ ys))), hcg.mono (fun o ho => by rw [ho]; exact hne), hR.put hd ?_, hK⟩
              show OwnRep γ ω' w' (.slot d) sz (.list (es ++ ys)) v'
              exact .list _ _ v' e'' (xs ++ news) hown' (hcells.chg hcg) (fun b hb => ⟨by simp [ω', hb], (hblk b hb).2⟩)
          · exact hx.elim
        · exact hx.elim
      · split at hx
        · rename_i ys hnil hys
          obtain ⟨hpos, hyl, hlen, hby, hK⟩ := hx
          have hvs := shNil_ok h hnil
          have hr : w.ownsRow 0 e (szOf P e) (a.eval s) ([] : List (List MV)).length [] := by rw [hvs]; exact World.ownsRow_nil w 0 e (szOf P e)
          have hcl0 : Cells γ ω w (szOf P e) [] [] := ⟨by simp, by simp, by simp, by simp⟩
          obtain ⟨v', w', e'', news, hrun, hown', hcells, hgr, hblk⟩ := app_run (P := P) (γ := γ) (ω := ω) (ty := ty) hd1 hd2 rfl hpos hby (by simpa using hlen) hyl hr hcl0 (h.val hys)
          have hob : (a.eval s).ownBlock = none := by rw [hvs]; rfl
          let ω' : Own := fun b => if v'.ownBlock = some b then some (.slot d) else ω b
          have hnew : ∀ b, v'.ownBlock = some b → w.heap.size ≤ b := fun b hb => by
            rcases (hblk b hb).1 with h1 | h1
            · rw [hob] at h1; exact absurd h1 (by simp)
            · exact h1
          have hcg : Chg (fun _ => False) γ ω w γ ω' w' := by
            refine ⟨hgr.os, hgr.tape, hgr.output, hgr.size, fun _ _ h => h, fun b hb h0 => ⟨hgr.block b hb (by rw [hob]; simp), ?_⟩, fun b o hb h0 _ => ⟨hgr.block b hb (by rw [hob]; simp), ?_⟩⟩
            · simp only [ω']; rw [if_neg (fun e => by have := hnew b e; omega)]; exact h0
            · simp only [ω']; rw [if_neg (fun e => by have := hnew b e; omega)]; exact h0
          have hlt' : ∀ b, w'.heap.size ≤ b → ω' b = none := by
            intro b hb
            simp only [ω']
            split
            · rename_i hvb; have := (hblk b hvb).2; omega
            · exact h.lt b (Nat.le_trans hgr.size hb)
          refine ⟨v', w', hrun, γ, ω', st.put d (.own (szOf P e) (.list ys)), hcg.mono (fun _ h => h.elim), (h.grow hcg hlt').put hd ?_, hK⟩
          show OwnRep γ ω' w' (.slot d) (szOf P e) (.list ys) v'
          have hown2 := hown'
          simp only [List.nil_append] at hown2 hcells
          exact .list _ _ v' e'' news hown2 (hcells.chg hcg) (fun b hb => ⟨by simp [ω', hb], (hblk b hb).2⟩)
        · exact hx.elim
    · exact hx.elim
  · exact hx.elim

end Go.Pv
