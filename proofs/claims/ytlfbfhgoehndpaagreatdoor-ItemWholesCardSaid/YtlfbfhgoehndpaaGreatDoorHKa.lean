/- The library of this work, H texts, part K4: arrays in memory; rows of bytes become strings. -/
import Derived.Test.YtlfbfhgoehndpaaGreatDoorHKs
import Derived.Laws.BytesArg
set_option linter.unusedVariables false
set_option linter.unusedSimpArgs false
noncomputable section
namespace Go.Pv

/-- The bytes of a row. -/
def unB : List (List MV) → Option (List Int)
  | [] => some []
  | [.int .u8 n] :: r => (match unB r with
    | some l => some (n :: l)
    | none => none)
  | _ => none
def bytesN (ns : List Int) : ByteArray := ⟨(ns.map fun n => UInt8.ofNat n.toNat).toArray⟩
def bS {α : Type} (es : List (List MV)) (K : ByteArray → Option α) : Option α := match unB es with
  | some ns => K (bytesN ns)
  | none => none
theorem unB_len : ∀ {es : List (List MV)} {ns : List Int}, unB es = some ns → ns.length = es.length ∧ ∀ (j : Nat) (e : List MV), es[j]? = some e → ∃ n, ns[j]? = some n ∧ e = [.int .u8 n]
  | [], ns, h => by cases h; exact ⟨rfl, by simp⟩
  | e :: r, ns, h => by
    unfold unB at h
    split at h
    · rename_i h0; cases h0
    · rename_i n r' h0
      cases h0
      split at h
      · rename_i l hl
        cases h
        obtain ⟨h1, h2⟩ := unB_len hl
        refine ⟨by simp [h1], fun j e hj => ?_⟩
        cases j with
        | zero => simp at hj; subst hj; exact ⟨n, rfl, rfl⟩
        | succ j => simp at hj; obtain ⟨m, q1, q2⟩ := h2 j e hj; exact ⟨m, by simpa using q1, q2⟩
      · cases h
    · cases h
section
variable {α : Type} {E : Env} {P : Program} {x : α} {γ γ' : List Value} {ω ω' : Own} {w w' : World} {nt : Nat} {st : St} {a : Act} {K : St → Option α}

theorem bytes_run {es : List (List MV)} {ns : List Int} {v : Value} (hr : Rep γ ω w (.list es) v) (hn : unB es = some ns) {src e dst : TypeId} (hs : P.underlying src = some (.slice e)) (he : P.underlying e = some (.int .u8)) (hd : P.underlying dst = some .string) :
    (convert src dst v).run P w = .ok (.string (bytesN ns)) w := by
  obtain ⟨h1, h2⟩ := unB_len hn
  cases hr with
  | list _ sz blk o cap us hcap hω hlt hsz hnp hc h =>
    have := run_convert_bytes_arg (P := P) w src e hs he blk o es.length cap ns h1 (fun i hi => by
      obtain ⟨n, q1, q2⟩ := h2 i es[i] (List.getElem?_eq_getElem hi)
      have hl := hsz es[i] (List.getElem_mem hi)
      rw [q2] at hl
      have hsz1 : sz = 1 := hl.symm
      subst hsz1
      have c1 := (hc i es[i] (List.getElem?_eq_getElem hi) 0 (.int .u8 n) (by rw [q2]; rfl)).1
      have c2 := h i es[i] (List.getElem?_eq_getElem hi) 0 (.int .u8 n) (by rw [q2]; rfl)
      generalize us i 0 = u at c1 c2
      cases c2
      have e1 : ns.getD i 0 = n := by simp [List.getD, q1]
      rw [e1]
      simpa using c1) dst hd
    exact this
  | list0 a cap =>
    have : ns = [] := List.eq_nil_of_length_eq_zero (by simpa using h1)
    subst this
    cases a with
    | none => exact run_convert_bytes_nil (P := P) w src e hs he 0 cap dst hd
    | some a =>
      rw [run_convert_bytes_string w src dst e _ 0 cap hs he hd, run_bytesToString w a 0 cap [] (by simp [loadCells, loadCellsFrom, Sem.run_pure])]
      rfl
def bstF (E : Env) (st : St) (d : Option Tmp) (e : TypeId) (y : Operand) (K : St → Option α) : Option α :=
  match isU8 (kdE E e) with
  | true => (match y with
    | .tmp t => (match lk st.v t with
      | .list es => bS es fun s => K (putO st d (.str s))
      | .ref k => (match st.B[k]? with
        | some (some (.row false _ es [])) => bS es fun s => K (putO st d (.str s))
        | _ => none)
      | _ => none)
    | _ => none)
  | false => none
theorem isU8_some {k : TK} (h : isU8 k = true) : k = .int .u8 := by
  unfold isU8 at h
  split at h
  · rfl
  · cases h
theorem bst_ok (hE : E.Ok P) (h : Rel γ ω w nt st a) {d : Option Tmp} (hdn : ∀ t, d = some t → t < nt) {s T e : TypeId} (hkT : kdE E T = .str) (hks : kdE E s = .slice e) {y : Operand} (hx : bstF E st d e y K = some x) :
    Does P nt γ ω w a d (convert s T (a.eval y)) K x := by
  unfold bstF at hx
  split at hx
  · rename_i hk
    have he := isU8_some hk
    obtain ⟨d1, hd1, hkd1⟩ := und_of_kd (kdE_ok hE hks (by simp)) (by simp)
    have := tk_slice hkd1; subst this
    obtain ⟨d2, hd2, hkd2⟩ := und_of_kd (kdE_ok hE he (by simp)) (by simp)
    have := tk_int hkd2; subst this
    obtain ⟨d3, hd3, hkd3⟩ := und_of_kd (kdE_ok hE hkT (by simp)) (by simp)
    have := tk_str hkd3; subst this
    have fin : ∀ {es : List (List MV)} {ω1 : Own}, Rep γ ω1 w (.list es) (a.eval y) → bS es (fun s => K (putO st d (.str s))) = some x → Does P nt γ ω w a d (convert s T (a.eval y)) K x := by
      intro es ω1 hr hx
      unfold bS at hx
      split at hx
      · rename_i ns hn
        exact ⟨_, _, bytes_run hr hn hd1 hd2 hd3, γ, ω, _, Chg.refl _ _ _ _, h.putO hdn (.str _), hx⟩
      · cases hx
    split at hx
    · rename_i t
      split at hx
      · rename_i es hc
        have hr := h.slot t hc
        exact fin hr hx
      · rename_i k hc
        split at hx
        · rename_i es hk
          obtain ⟨ω1, _, _, hr⟩ := h.retire hk (m := .list es) rfl
          have hs := h.slot t hc
          generalize ev : a.eval (.tmp t) = v at *
          cases hs with
          | ref _ _ hb _ _ => exact fin (hr _ hb) hx
        · cases hx
      · cases hx
    · cases hx
  · cases hx
/-! ### Arrays in memory: rows of one's own, with an address instead of a slice -/
def St.newA (st : St) (d : Option Tmp) (es : List (List MV)) : St := putO ⟨st.v, st.B ++ [some (.row false 1 es [])]⟩ d (.eref st.B.length 1 0 0)
def araF (E : Env) (st : St) (d : Option Tmp) (T : TypeId) (K : St → Option α) : Option α :=
  match lkN E.ty T with
  | some ti => sB (Nat.ble ti.zero.length 1000000 && npL ti.zero) (K (st.newA d (ti.zero.map fun c => [c])))
  | none => none
theorem ara_ok (hE : E.Ok P) (h : Rel γ ω w nt st a) {d : Option Tmp} (hdn : ∀ t, d = some t → t < nt) {T : TypeId} (hx : araF E st d T K = some x) :
    Does P nt γ ω w a d (Instr.alloc T true (.tuple #[])) K x := by
  unfold araF at hx
  split at hx
  · rename_i ti hti
    have hT := ty_of (hE.ty _ _ hti)
    obtain ⟨z, hz, hz1, hz2⟩ := run_zeroT (P := P) (w := w) hT
    obtain ⟨z1, z2, z3⟩ := zerosOf_rep (γ := γ) (ω := ω) (w := w) hz1
    have hrun : (Instr.alloc T true (.tuple #[])).run P w = .ok (.pointer (some ⟨w.heap.size, 0, none⟩)) (w.alloc (.cells z.cells.toList.toArray T)) := by
      simp [Instr.alloc, hz, newVar, newRow]
    obtain ⟨h1, hx⟩ := sB_some hx
    rw [Bool.and_eq_true] at h1
    have hlen : ti.zero.length ≤ 1000000 := Nat.le_of_ble_eq_true h1.1
    have hnp := npL_iff.1 h1.2
    obtain ⟨hcg, hlt'⟩ := alloc_new h (.cells z.cells.toList.toArray T) (.slice (some ⟨w.heap.size, 0, none⟩) ti.zero.length ti.zero.length)
    have hcells : CellsP (CR (γ ++ [.slice (some ⟨w.heap.size, 0, none⟩) ti.zero.length ti.zero.length]) (fun b => if b = w.heap.size then some (Owner.ob γ.length []) else ω b) (w.alloc (.cells z.cells.toList.toArray T)) (.ob γ.length) [] false) 1 (ti.zero.map fun c => [c]) z.cells.toList := by
      refine ⟨by simp [z1], fun e he => ?_, z2, fun j e hj i c hi => ?_⟩
      · obtain ⟨c, _, rfl⟩ := List.mem_map.1 he; rfl
      · rw [List.getElem?_map] at hj
        cases hc : ti.zero[j]? with
        | none => rw [hc] at hj; simp at hj
        | some c0 =>
          rw [hc] at hj
          simp only [Option.map_some, Option.some.injEq] at hj
          subst hj
          cases i with
          | succ i => simp at hi
          | zero =>
            simp at hi; subst hi
            have hjl : j < z.cells.toList.length := by rw [z1]; exact (List.getElem?_eq_some_iff.1 hc).1
            refine ⟨z.cells.toList[j], by rw [Nat.mul_one, Nat.add_zero]; exact List.getElem?_eq_getElem hjl, ?_⟩
            have hr := z3 j c0 _ hc (List.getElem?_eq_getElem hjl)
            have hn := hnp c0 (List.mem_of_getElem? hc)
            simp only [CR, lkF]
            exact ⟨fun _ => hn, .rep _ _ _ hn (hr.chg hcg)⟩
    have hR := h.new hcg hlt' (o := .row false 1 (ti.zero.map fun c => [c]) []) ⟨T, _, row_made (e := T) (heap_alloc_new w _) (by simp) (by simp only [maxLen]; omega) (by simp) (by simp) hcells⟩
    refine ⟨_, _, hrun, _, _, _, hcg.mono (fun _ h => h.elim), hR.putO hdn (c := .eref st.B.length 1 0 0) ?_, hx⟩
    have := Rep.eref (γ := γ ++ [.slice (some ⟨w.heap.size, 0, none⟩) ti.zero.length ti.zero.length]) (ω := fun b => if b = w.heap.size then some (Owner.ob γ.length []) else ω b) (w := w.alloc (.cells z.cells.toList.toArray T)) st.B.length 1 0 0 w.heap.size ti.zero.length ti.zero.length (by rw [← h.len]; simp)
    simpa using this
  · cases hx
theorem tk_arr {d : TypeDesc} {n : Nat} {e : TypeId} (h : tkOf d = .arr n e) : d = .array n e := by
  cases d <;> simp [tkOf] at h ⊢; exact h
def arxF (E : Env) (st : St) (d : Option Tmp) (N : Nat) (e : TypeId) (y i : Operand) (K : St → Option α) : Option α :=
  match opv st i with
  | some (.int _ n) => (match szE E e with
    | 0 => none
    | s + 1 => (match y with
      | .tmp t => (match lk st.v t with
        | .eref k sz 0 0 => sB (Nat.beq sz (s + 1)) (ixG N n (K (putO st d (.eref k sz n.toNat 0))))
        | _ => none)
      | _ => none))
  | _ => none
theorem arx_ok (hE : E.Ok P) (h : Rel γ ω w nt st a) {d : Option Tmp} (hdn : ∀ t, d = some t → t < nt) {T e : TypeId} {N : Nat} (hkT : kdE E T = .arr N e) {y i : Operand} (hx : arxF E st d N e y i K = some x) :
    Does P nt γ ω w a d (Instr.indexAt T (a.eval y) (a.eval i)) K x := by
  unfold arxF at hx
  obtain ⟨d1, hd1, hkd1⟩ := und_of_kd (kdE_ok hE hkT (by simp)) (by simp)
  have := tk_arr hkd1; subst this
  split at hx
  · rename_i kk n hn
    have ei := (h.val hn).int
    split at hx
    · cases hx
    · rename_i s hs
      split at hx
      · rename_i t
        split at hx
        · rename_i k sz hc
          obtain ⟨hb, hx⟩ := sB_some hx
          have hb : sz = s + 1 := Nat.eq_of_beq_eq_true hb
          unfold ixG at hx
          split at hx
          · rename_i hix
            obtain ⟨ti, hti, hsz⟩ := szOf_ne (P := P) (T := e) (by rw [szE_ok hE hs]; simp)
            rw [szE_ok hE hs] at hsz
            have hr := h.slot t hc
            generalize a.eval (.tmp t) = v at hr ⊢
            cases hr with
            | eref _ _ _ _ blk len cap hg =>
              refine ⟨_, _, ?_, γ, ω, _, Chg.refl _ _ _ _, h.putO hdn (.eref k sz n.toNat 0 blk len cap hg), hx⟩
              rw [ei]
              have hc : (0 ≤ n ∧ n < (N : Int)) := ⟨hix.1, by have := hix.2; omega⟩
              simp [Instr.indexAt, run_asIntOf, run_underlying hd1, Instr.sureAddr, Sem.run_pure, hc, run_sizeT (ty_of hti), Addr.add_lit, ← hsz, hb]
          · cases hx
        · cases hx
      · cases hx
  · cases hx
/-- A slice of an array to its end: it is shared from now on. -/
def arsF (E : Env) (st : St) (d : Option Tmp) (N : Nat) (e : TypeId) (y : Operand) (lo : Option Operand) (K : St → Option α) : Option α :=
  match szE E e with
  | 1 => (match y with
    | .tmp t => (match lk st.v t with
      | .eref k 1 0 0 => (match st.B[k]? with
        | some (some (.row false 1 es [])) => (match bndOf st 0 lo with
          | some l => gd (es.length = N ∧ 0 ≤ l ∧ l ≤ (N : Int)) (K (putO (st.retire k (.list es)) d (.list (es.drop l.toNat))))
          | none => none)
        | _ => none)
      | _ => none)
    | _ => none)
  | _ => none
theorem ars_ok (hE : E.Ok P) (h : Rel γ ω w nt st a) {d : Option Tmp} (hdn : ∀ t, d = some t → t < nt) {T e : TypeId} {N : Nat} (hkT : kdE E T = .arr N e) {y : Operand} {lo : Option Operand} (hx : arsF E st d N e y lo K = some x) :
    Does P nt γ ω w a d (Instr.sliceAt T (a.eval y) (lo.map a.eval) (Option.map a.eval none) none) K x := by
  unfold arsF at hx
  obtain ⟨d1, hd1, hkd1⟩ := und_of_kd (kdE_ok hE hkT (by simp)) (by simp)
  have := tk_arr hkd1; subst this
  split at hx
  · rename_i hs
    split at hx
    · rename_i t
      split at hx
      · rename_i k hc
        split at hx
        · rename_i es hk
          split at hx
          · rename_i l hl
            unfold gd at hx
            split at hx
            · rename_i hg
              obtain ⟨hlen, h0, h1⟩ := hg
              obtain ⟨ti, hti, hsz⟩ := szOf_ne (P := P) (T := e) (by rw [szE_ok hE hs]; simp)
              rw [szE_ok hE hs] at hsz
              have hb := run_bounds (P := P) h false N N (Nat.le_refl _) hl (hi := none) (u := (N : Int)) rfl h0 h1 (Int.le_refl _)
              obtain ⟨hd, g1, e', xs, g2⟩ := h.objs k _ hk
              obtain ⟨ω1, hc1, hR1, hrep⟩ := h.retire hk (m := .list es) rfl
              have hr := h.slot t hc
              generalize a.eval (.tmp t) = v at hr ⊢
              cases hr with
              | eref _ _ _ _ blk len cap hgk =>
                have hrow := hrep _ hgk
                have hrun : (Instr.sliceAt T (.pointer (some ⟨blk, 0 * 1 + 0, none⟩)) (lo.map a.eval) (Option.map a.eval none) none).run P w =
                    .ok (.slice (some (if N = l.toNat then ⟨blk, 0 * 1 + 0, none⟩ else ⟨blk, l.toNat, none⟩)) (N - l.toNat) (N - l.toNat)) w := by
                  simp only [Option.map_none] at hb ⊢
                  simp [Instr.sliceAt, run_underlying hd1, Instr.sureAddr, Sem.run_pure, hb, run_sizeT (ty_of hti), Addr.add_lit, hsz]
                refine ⟨_, _, hrun, γ, ω1, _, hc1, hR1.putO hdn ?_, hx⟩
                by_cases he : N - l.toNat = 0
                · have hnil : es.drop l.toNat = [] := List.drop_of_length_le (by omega)
                  rw [hnil, he]
                  exact .list0 _ _
                · rw [if_neg (by omega)]
                  have hlt : l.toNat < es.length := by omega
                  cases hrow with
                  | list _ sz _ o cap us hcap hω hltb hszl hnp hcell hre =>
                    have hs1 : sz = 1 := by rw [← hszl _ (List.getElem_mem hlt)]; exact g2.wid _ (List.getElem_mem hlt)
                    subst hs1
                    have hdl : (es.drop l.toNat).length = N - l.toNat := by rw [List.length_drop]; omega
                    have := Rep.list (γ := γ) (ω := ω1) (w := w) (es.drop l.toNat) 1 blk l.toNat (N - l.toNat) (fun j i => us (l.toNat + j) i) (by omega) hω hltb
                      (fun e he => hszl e (List.mem_of_mem_drop he)) (fun e he => hnp e (List.mem_of_mem_drop he))
                      (fun j e hj i c hi => by
                        rw [List.getElem?_drop] at hj
                        have := hcell _ e hj i c hi
                        rw [show l.toNat + (j * 1 + i) = 0 + ((l.toNat + j) * 1 + i) from by omega]
                        exact this)
                      (fun j e hj i c hi => by
                        rw [List.getElem?_drop] at hj
                        exact hre _ e hj i c hi)
                    rw [hdl] at this
                    exact this
                  | list0 A cap => simp at hlt
            · cases hx
          · cases hx
        · cases hx
      · cases hx
    · cases hx
  · cases hx
/-! ### Interfaces -/
def noIfc : TK → Bool
  | .iface => false
  | .other => false
  | _ => true
def mifF (E : Env) (st : St) (d : Option Tmp) (T : TypeId) (y : Operand) (K : St → Option α) : Option α :=
  match noIfc (kdE E T) with
  | true => sO (st.shr y) fun st' => sO (shv st' y) fun m => sB (noTup m) (K (putO st' d (.ifc T m)))
  | false => none
theorem mif_ok (hE : E.Ok P) (h : Rel γ ω w nt st a) {d : Option Tmp} (hdn : ∀ t, d = some t → t < nt) {T : TypeId} {y : Operand} (hx : mifF E st d T y K = some x) :
    Does P nt γ ω w a d (Instr.makeInterface T (a.eval y)) K x := by
  unfold mifF at hx
  split at hx
  · rename_i hk
    replace hx := sO_some hx; obtain ⟨st', hst, hx⟩ := hx
    replace hx := sO_some hx; obtain ⟨m, hm, hx⟩ := hx
    replace hx := sB_some hx; obtain ⟨h1, hx⟩ := hx
    obtain ⟨ω1, hc1, hR1⟩ := h.shr hst
    have hne : kdE E T ≠ .other := by intro e; rw [e] at hk; cases hk
    obtain ⟨d1, hd1, hkd1⟩ := und_of_kd (kdE_ok hE rfl hne) hne
    have hni : ∀ ms, d1 ≠ .interface ms := by
      intro ms e
      subst e
      have : kdE E T = .iface := by rw [← hkd1]; rfl
      rw [this] at hk; cases hk
    have hrun : (Instr.makeInterface T (a.eval y)).run P w = .ok (.iface T (a.eval y)) w := by
      simp only [Instr.makeInterface, Sem.run_bind, run_underlying hd1, Result.andThen]
      cases d1 <;> first | rfl | exact absurd rfl (hni _)
    exact ⟨_, _, hrun, γ, ω1, _, hc1, hR1.putO hdn (.ifc T m _ (hR1.shv hm)), hx⟩
  · cases hx
end
end Go.Pv
end
