/- The library of this work, H texts, part I: rows made and literal, structs, variables in memory, stores. -/
import Derived.Test.YtlfbfhgoehndpaaGreatDoorHH
set_option linter.unusedVariables false
set_option linter.unusedSimpArgs false
noncomputable section
namespace Go.Pv

section
variable {α : Type}
def eqOp : Operand → Operand → Bool
  | .tmp a, .tmp b => Nat.beq a b
  | _, _ => false
def noTup : MV → Bool
  | .tup _ => false
  | .gone => false
  | _ => true
theorem noTup_ne {m : MV} (h : noTup m = true) : (∀ vs, m ≠ .tup vs) ∧ m ≠ .gone := by
  refine ⟨?_, ?_⟩
  · rintro vs rfl; simp [noTup] at h
  · rintro rfl; simp [noTup] at h

/-- Where an element has cells that may hold rows; and how wide these are. -/
def hofs (E : Env) (e : TypeId) : List (Nat × Nat) := match kdE E e with
  | .slice e' => [(0, szE E e')]
  | .strct fs => fs.filterMap fun f => match kdE E f.2 with
    | .slice e' => some (f.1, szE E e')
    | _ => none
  | _ => []
/-- Zeros of an element that may hold rows. -/
def hzL (ofs : List (Nat × Nat)) : Nat → List MV → List MV
  | _, [] => []
  | i, m :: r => (match m with
    | .nil => (match lkN ofs i with
      | some s => .hold false s (.list [])
      | none => .list [])
    | m => m) :: hzL ofs (i + 1) r
def zeroE (E : Env) (dp : Bool) (e : TypeId) (l : List MV) : List MV := match dp with
  | true => hzL (hofs E e) 0 l
  | false => l.map MV.top

def mkF (E : Env) (hd : List Nat) (st : St) (d : Nat) (T : TypeId) (l c : Operand) (K : St → Option α) : Option α :=
  match kdE E T with
  | .slice e => match lkN E.ty e with
    | some ti => sB (Nat.ble ti.bytes 100000) (match ti.size with
      | 0 => none
      | _ + 1 => (match opv st l with
        | some (.int k n) => (match eqOp l c with
          | true => gd (0 ≤ n ∧ n ≤ 1000000000) (K (st.newO (some d) (.row (memN hd d) ti.size (List.replicate n.toNat (zeroE E (memN hd d) e ti.zero)) [])))
          | false => (match opv st c with
            | some (.int k' n') => gd (n = n' ∧ 0 ≤ n ∧ n ≤ 1000000000) (K (st.newO (some d) (.row (memN hd d) ti.size (List.replicate n.toNat (zeroE E (memN hd d) e ti.zero)) [])))
            | _ => none))
        | _ => none))
    | none => none
  | _ => none

def allNp : List (List MV) → Bool
  | [] => true
  | e :: r => npL e && allNp r

def bsF (E : Env) (st : St) (d : Nat) (T : TypeId) (len : Nat) (parts : List (Nat × Operand)) (K : St → Option α) : Option α :=
  match kdE E T with
  | .slice e => match szE E e with
    | 0 => none
    | sz + 1 => sO (st.shrs (parts.map (·.2))) fun st' => sO (shvs st' (parts.map (·.2))) fun ms =>
      sO (litE 0 ((parts.map (·.1)).zip ms)) fun es => sB (Nat.beq es.length len) (sB (Nat.ble (len * (sz + 1)) 16777216) (sB (ms.all noTup) (sB (wid (sz + 1) es) (sB (allNp es)
        (K (st'.newO (some d) (.row false (sz + 1) es [])))))))
  | _ => none

def fillF (E : Env) (T : TypeId) : List (Nat × MV) → List MV → Option (List MV)
  | [], cs => some cs
  | (i, m) :: r, cs => match fieldE E T i with
    | some (o, fT) => (match szE E fT with
      | 0 => none
      | s + 1 => (match Nat.beq (cellsM m).length (s + 1) with
        | true => (match Nat.ble (o + (cellsM m).length) cs.length with
          | true => fillF E T r (cs.take o ++ cellsM m ++ cs.drop (o + (cellsM m).length))
          | false => none)
        | false => none))
    | none => none

def tysE (E : Env) (T : TypeId) : Bool :=
  match kdE E T with
  | .strct fs => fs.all fun f => (lkN E.ty f.2).isSome
  | _ => false

def bldF (E : Env) (hd : List Nat) (st : St) (dst : Option Tmp) (T : TypeId) (parts : List (Nat × Operand)) (K : St → Option α) : Option α :=
  match lkN E.ty T with
  | some ti => sO (shvs st (parts.map (·.2))) fun ms =>
      sO (fillF E T ((parts.map (·.1)).zip ms) (match dst with
        | some d => (match memN hd d with
          | true => ti.zero
          | false => ti.zero.map MV.top)
        | none => ti.zero)) fun cs => sB (ms.all noTup) (sB (ms.all fun m => !(cellsM m).isEmpty) (sB (tysE E T)
        (K (putO st dst (.agg cs)))))
  | none => none

/-- A new variable in memory. -/
def St.newP (st : St) (dst : Option Tmp) (cs : List MV) : St := putO ⟨st.v, st.B ++ [some (.box cs)]⟩ dst (.ptr st.B.length 0)

def boxF (fz : Bool) (st : St) (dst : Option Tmp) (x : Operand) (K : St → Option α) : Option α :=
  match fz with
  | true => sO (st.shr x) fun st' => sO (shv st' x) fun m => sB (noTup m) (sB (npL (cellsM m)) (K (putO st' dst (.cptr (cellsM m) 0))))
  | false => sO (shv st x) fun m => sB (noTup m) (K (st.newP dst (cellsM m)))

/-- A strings.Builder, new. -/
def St.newD (st : St) (dst : Option Tmp) : St := putO ⟨st.v, st.B ++ [some (.bld .empty)]⟩ dst (.ptr st.B.length 0)
def isBld (T : Nat) (z : List MV) : Bool := match Nat.beq T bldT with
  | true => (match z with
    | [.nilptr, .nil] => true
    | _ => false)
  | false => false

def aloF (E : Env) (hd : List Nat) (fz : Bool) (st : St) (dst : Option Tmp) (T : TypeId) (K : St → Option α) : Option α :=
  match lkN E.ty T with
  | some ti => (match fz with
    | true => sB (npL (ti.zero.map MV.top)) (K (putO st dst (.cptr (ti.zero.map MV.top) 0)))
    | false => (match isBld T ti.zero with
      | true => K (st.newD dst)
      | false => K (st.newP dst (match dst with
        | some d => (match memN hd d with
          | true => ti.zero
          | false => ti.zero.map MV.top)
        | none => ti.zero))))
  | none => none

/-! ### The cells of an object that hold others are folded in again -/
def noF (foc : List (Nat × Nat × Nat)) (j i : Nat) : Bool := match foc with
  | [] => true
  | (_, i', _) :: r => !Nat.beq i' i && noF r j i
/-- A cell of a row, of a map, set anew (where there is none: nothing). -/
def setC : List (List MV) → Nat → Nat → MV → List (List MV)
  | [], _, _, _ => []
  | y :: r, 0, i, c => y.set i c :: r
  | y :: r, j + 1, i, c => y :: setC r j i c
def setV : List (MKey × MV) → Nat → MV → List (MKey × MV)
  | [], _, _ => []
  | x :: r, 0, v => (x.1, v) :: r
  | x :: r, j + 1, v => x :: setV r j v
def foldF (st : St) (k : Nat) (K : St → Option α) : Option α := match st.B[k]? with
  | some (some (.row true sz es ((j, i, k2) :: foc))) => (match st.B[k2]? with
    | some (some (.row dp2 sz2 es2 [])) => sB (!Nat.beq k k2 && noF foc j i) (K ⟨st.v, (st.B.set k2 none).set k (some (.row true sz (setC es j i (.hold dp2 sz2 (.list es2))) foc))⟩)
    | _ => none)
  | some (some (.map true m [(j, k2)])) => (match st.B[k2]? with
    | some (some (.row dp2 sz2 es2 [])) => sB (!Nat.beq k k2) (K ⟨st.v, (st.B.set k2 none).set k (some (.map true (setV m j (.hold dp2 sz2 (.list es2))) []))⟩)
    | _ => none)
  | _ => none
def foldsF : Nat → St → Nat → (St → Option α) → Option α
  | 0, st, k, K => K st
  | n + 1, st, k, K => foldF st k fun st' => foldsF n st' k K

/-! ### Stores -/
def notAgg : MV → Bool
  | .agg _ => false
  | _ => true
def isSl : TK → Bool
  | .slice _ => true
  | _ => false

def stoEF (E : Env) (st : St) (T : TypeId) (k sz i off : Nat) (x : Operand) (K : St → Option α) : Option α :=
  match st.B[k]? with
  | some (some (.row false sz' _ [])) => sO (st.shr x) fun st' => (match st'.B[k]? with
    | some (some (.row false sz'' es [])) => sO (shv st' x) fun m => rdN es i fun e => sB (noTup m) (sB (npL (cellsM m)) (sB (Nat.beq sz'' sz) (match szE E T with
      | 0 => none
      | sT + 1 => sB (Nat.beq (cellsM m).length (sT + 1)) (sB (Nat.ble (off + (sT + 1)) sz)
          (K ⟨st'.v, st'.B.set k (some (.row false sz (es.set i (ovr e off (cellsM m))) []))⟩)))))
    | _ => none)
  | some (some (.row true sz' es foc)) => sB (Nat.beq sz' sz) (match shv st x with
    | some (.ref k2) => (match st.B[k2]? with
      | some (some (.row dp2 sz2 es2 [])) => sB (isSl (kdE E T) && Nat.beq (szE E T) 1 && Nat.ble (off + 1) sz && !Nat.beq k k2) (rdN es i fun e => match foc with
        | [] => K ⟨st.v, (st.B.set k2 none).set k (some (.row true sz (es.set i (e.set off (.hold dp2 sz2 (.list es2)))) []))⟩
        | [(i', off', _)] => sB (Nat.beq off' off) (gd (i' = i) (K ⟨st.v, (st.B.set k2 none).set k (some (.row true sz (es.set i (e.set off (.hold dp2 sz2 (.list es2)))) []))⟩))
        | _ => none)
      | _ => none)
    | some m => sB (np m && noTup m && notAgg m && offs foc off) (sB (Nat.beq (cellsM m).length 1 && Nat.beq (szE E T) 1 && Nat.ble (off + 1) sz) (rdN es i fun e => K ⟨st.v, st.B.set k (some (.row true sz (es.set i (e.set off m)) foc))⟩))
    | none => none)
  | _ => none

def stoBF (E : Env) (st : St) (T : TypeId) (k off : Nat) (x : Operand) (K : St → Option α) : Option α :=
  match st.B[k]? with
  | some (some (.box cs)) => sO (shv st x) fun m => sB (noTup m) (match szE E T with
      | 0 => none
      | sT + 1 => sB (Nat.beq (cellsM m).length (sT + 1)) (sB (Nat.ble (off + (sT + 1)) cs.length)
        (K ⟨st.v, st.B.set k (some (.box (ovr cs off (cellsM m))))⟩)))
  | _ => none

def stoF (E : Env) (st : St) (T : TypeId) (ad x : Operand) (K : St → Option α) : Option α :=
  match ad with
  | .tmp t => match lk st.v t with
    | .eref k sz i off => stoEF E st T k sz i off x K
    | .ptr k off => stoBF E st T k off x K
    | _ => none
  | _ => none
end

theorem fold_set (off : Nat) : ∀ (ys : List Value) (k : Nat) (pre rest : List Value), pre.length = off + k → ys.length ≤ rest.length →
    (ys.zipIdx k).foldl (fun cs (x : Value × Nat) => cs.setIfInBounds (off + x.2) x.1) (pre ++ rest).toArray = (pre ++ ys ++ rest.drop ys.length).toArray
  | [], k, pre, rest, _, _ => by simp
  | y :: ys, k, pre, z :: rest, hp, hr => by
    simp only [List.zipIdx_cons, List.foldl_cons]
    have e : (pre ++ z :: rest).toArray.setIfInBounds (off + k) y = ((pre ++ [y]) ++ rest).toArray := by
      rw [← hp]
      simp
    rw [e, fold_set off ys (k + 1) (pre ++ [y]) rest (by simp [hp]; omega) (by simpa using hr)]
    simp
  | y :: ys, k, pre, [], hp, hr => by simp at hr

/-- Cells of a value, pure and in the model, one for one. -/
theorem flatten_get {α : Type} {sz : Nat} : ∀ {es : List (List α)}, (∀ e ∈ es, e.length = sz) → ∀ (j i : Nat), i < sz → es.flatten[j * sz + i]? = (es[j]?).bind (·[i]?)
  | [], _, j, i, _ => by simp
  | e :: es, h, 0, i, hi => by
    have he : e.length = sz := h e (by simp)
    simp only [Nat.zero_mul, Nat.zero_add, List.flatten_cons]
    rw [List.getElem?_append_left (by omega)]; rfl
  | e :: es, h, j + 1, i, hi => by
    have he : e.length = sz := h e (by simp)
    simp only [List.flatten_cons]
    rw [List.getElem?_append_right (by rw [he, Nat.add_mul]; omega), show (j + 1) * sz + i - e.length = j * sz + i from by rw [he, Nat.add_mul]; omega]
    rw [flatten_get (fun e he => h e (by simp [he])) j i hi]; rfl

theorem flatten_len {α : Type} {sz : Nat} : ∀ {es : List (List α)}, (∀ e ∈ es, e.length = sz) → es.flatten.length = es.length * sz
  | [], _ => by simp
  | e :: es, h => by
    rw [List.flatten_cons, List.length_append, flatten_len (fun e he => h e (by simp [he])), h e (by simp), List.length_cons, Nat.add_mul]; omega

theorem flatten_set {α : Type} {sz : Nat} {es : List (List α)} (h : ∀ e ∈ es, e.length = sz) {i : Nat} {e : List α} (he : es[i]? = some e) (cs : List α) (off : Nat) (ho : off + cs.length ≤ sz) :
    (es.set i (e.take off ++ cs ++ e.drop (off + cs.length))).flatten = es.flatten.take (i * sz + off) ++ cs ++ es.flatten.drop (i * sz + off + cs.length) := by
  induction es generalizing i with
  | nil => simp at he
  | cons x r ih =>
    have hx : x.length = sz := h x (by simp)
    cases i with
    | zero =>
      simp at he; subst he
      simp only [List.set_cons_zero, List.flatten_cons, Nat.zero_mul, Nat.zero_add]
      rw [List.take_append_of_le_length (by omega), List.drop_append_of_le_length (by omega)]
      simp
    | succ i =>
      have := ih (fun e he => h e (by simp [he])) (by simpa using he)
      simp only [List.set_cons_succ, List.flatten_cons, this]
      have e1 : (i + 1) * sz + off = x.length + (i * sz + off) := by rw [hx, Nat.add_mul]; omega
      rw [e1, List.take_append, List.drop_append]
      have e2 : x.take (x.length + (i * sz + off)) = x := List.take_of_length_le (by omega)
      have e3 : x.drop (x.length + (i * sz + off) + cs.length) = [] := List.drop_eq_nil_of_le (by omega)
      rw [e2, e3, show x.length + (i * sz + off) - x.length = i * sz + off from by omega, show x.length + (i * sz + off) + cs.length - x.length = i * sz + off + cs.length from by omega]
      simp

section
variable {P : Program} {γ : List Value} {ω : Own} {w : World} {nt : Nat} {st : St} {a : Act}
def fillS (P : Program) (T : TypeId) : List (Nat × MV) → List MV → Option (List MV)
  | [], cs => some cs
  | (i, m) :: r, cs => match fieldOf P T i with
    | some (o, fT) => if (cellsM m).length = szOf P fT ∧ o + (cellsM m).length ≤ cs.length then fillS P T r (cs.take o ++ cellsM m ++ cs.drop (o + (cellsM m).length)) else none
    | none => none

def tysOk (P : Program) (T : TypeId) : Bool :=
  match kdOf P T with
  | .strct fs => fs.all fun f => (tiOf P f.2).isSome
  | _ => false

def CellsR (γ : List Value) (ω : Own) (w : World) (cs : List MV) (us : List Value) : Prop :=
  us.length = cs.length ∧ (∀ u ∈ us, u.oneCell' = true) ∧ ∀ (i : Nat) (c : MV) (u : Value), cs[i]? = some c → us[i]? = some u → Rep γ ω w c u

theorem CellsR.splice {cs ds : List MV} {us vs : List Value} (h : CellsR γ ω w cs us) (k : CellsR γ ω w ds vs) (o : Nat) (ho : o + ds.length ≤ cs.length) : CellsR γ ω w (cs.take o ++ ds ++ cs.drop (o + ds.length)) (us.take o ++ vs ++ us.drop (o + vs.length)) := by
  obtain ⟨h1, h2, h3⟩ := h
  obtain ⟨k1, k2, k3⟩ := k
  refine ⟨by simp [h1, k1], ?_, ?_⟩
  · intro u hu
    rcases List.mem_append.1 hu with hu | hu
    · rcases List.mem_append.1 hu with hu | hu
      · exact h2 u (List.mem_of_mem_take hu)
      · exact k2 u hu
    · exact h2 u (List.mem_of_mem_drop hu)
  · intro i c u hc hu
    have lo : (cs.take o).length = o := by simp; omega
    have lu : (us.take o).length = o := by simp; omega
    rcases Nat.lt_or_ge i o with hi | hi
    · rw [List.append_assoc, List.getElem?_append_left (by omega), List.getElem?_take, if_pos hi] at hc hu
      exact h3 i c u hc hu
    · rw [List.append_assoc, List.getElem?_append_right (by omega), lo] at hc
      rw [List.append_assoc, List.getElem?_append_right (by omega), lu] at hu
      rcases Nat.lt_or_ge (i - o) ds.length with hj | hj
      · rw [List.getElem?_append_left hj] at hc
        rw [List.getElem?_append_left (by omega)] at hu
        exact k3 _ c u hc hu
      · rw [List.getElem?_append_right hj, List.getElem?_drop] at hc
        rw [List.getElem?_append_right (by omega), List.getElem?_drop] at hu
        refine h3 _ c u hc ?_
        rw [k1] at hu; exact hu

theorem fillS_ok {T : TypeId} {avs : Array Field} (hu : P.underlying T = some (.struct avs)) (places : Array (Nat × Nat)) (hpl : ∀ (i o : Nat) (fT : TypeId), fieldOf P T i = some (o, fT) → szOf P fT ≠ 0 → places[i]? = some (o, szOf P fT)) :
    ∀ {ps : List (Nat × MV)} {vs : List (Nat × Value)} {cs out : List MV} {us : List Value}, fillS P T ps cs = some out → vs.length = ps.length →
    (∀ (q : Nat) (x : Nat × MV) (y : Nat × Value), ps[q]? = some x → vs[q]? = some y → x.1 = y.1 ∧ (cellsM x.2).length ≠ 0 ∧ ∃ xs : List Value, y.2.cells = xs.toArray ∧ CellsR γ ω w (cellsM x.2) xs) → CellsR γ ω w cs us →
    ∃ us', Instr.fill (places[·]?) us.toArray vs = some us'.toArray ∧ CellsR γ ω w out us'
  | [], vs, cs, out, us, h, hl, hv, hc => by
    have : vs = [] := List.eq_nil_of_length_eq_zero (by simpa using hl)
    subst this
    simp [fillS] at h; subst h
    exact ⟨us, rfl, hc⟩
  | (i, m) :: r, (j, v) :: vs, cs, out, us, h, hl, hv, hc => by
    unfold fillS at h
    split at h
    · rename_i o fT hf
      split at h
      · rename_i hcond
        obtain ⟨h1, h2⟩ := hcond
        obtain ⟨e, hne, xs, g1, g2⟩ := hv 0 (i, m) (j, v) rfl rfl
        simp only at e; subst e
        have hp := hpl i o fT hf (by rw [← h1]; exact hne)
        have hsz : v.cells.size = szOf P fT := by rw [g1, ← h1]; simpa using g2.1
        have hul : us.length = cs.length := hc.1
        have hxl : xs.length = (cellsM m).length := g2.1
        simp only [Instr.fill, hp]
        rw [if_neg (by rw [hsz]; simp; omega)]
        have hfold : v.cells.zipIdx.foldl (fun cs (x : Value × Nat) => cs.setIfInBounds (o + x.2) x.1) us.toArray = (us.take o ++ xs ++ us.drop (o + xs.length)).toArray := by
          rw [g1]
          have := fold_set o xs 0 (us.take o) (us.drop o) (by simp; omega) (by simp; omega)
          rw [List.take_append_drop, List.drop_drop] at this
          simp only [Array.foldl_toList, ← Array.foldl_toList, Array.toList_zipIdx]
          exact this
        rw [hfold]
        exact fillS_ok hu places hpl h (by simpa using hl) (fun q x y hx hy => hv (q + 1) x y (by simpa using hx) (by simpa using hy)) (hc.splice g2 o h2)
      · exact absurd h (by simp)
    · exact absurd h (by simp)
  | (i, m) :: r, [], cs, out, us, h, hl, hv, hc => by simp at hl

theorem run_places {avs : Array Field} (hall : ∀ f ∈ avs, ∃ ti, tiOf P f.type = some ti) : (avs.mapM fun f => do pure (f.offset, ← sizeOf f.type) : Sem (Array (Nat × Nat))).run P w = .ok (avs.map fun f => (f.offset, szOf P f.type)) w := by
  have key : ∀ l : List Field, (∀ f ∈ l, ∃ ti, tiOf P f.type = some ti) → (l.mapM fun f => (Prod.mk f.offset <$> sizeOf f.type : Sem (Nat × Nat))).run P w = .ok (l.map fun f => (f.offset, szOf P f.type)) w := by
    intro l
    induction l with
    | nil => intro _; simp
    | cons f r ih =>
      intro h
      obtain ⟨ti, hti⟩ := h f (by simp)
      have e : szOf P f.type = ti.size := by simp [szOf, hti]
      rw [List.mapM_cons]
      simp only [Sem.run_bind, Sem.run_map, run_sizeT (ty_of hti), Result.andThen_ok, ih (fun g hg => h g (by simp [hg])), Sem.run_pure]
      simp [e]
  have k2 := key avs.toList (fun f hf => hall f (by simpa using hf))
  have e : (avs.mapM fun f => do pure (f.offset, ← sizeOf f.type) : Sem (Array (Nat × Nat))) = List.toArray <$> (avs.toList.mapM fun f => (Prod.mk f.offset <$> sizeOf f.type : Sem (Nat × Nat))) := by
    rw [← Array.mapM_eq_mapM_toList]
    simp
  rw [e]
  simp only [Sem.run_map, k2, Result.andThen_ok]
  congr 1
  exact Array.ext' (by simp)
theorem run_storeT {T : TypeId} {ti : TI} (hT : Ty P T ti) {g o : Nat} {e : TypeId} {cur : Array Value} (hg : w.heap[g]? = some (.cells cur e (0, 0))) {v : Value} {us : List Value} (hv : v.cells = us.toArray) (hl : us.length = ti.size) (hfit : o + us.length ≤ cur.size) (h1 : ∀ u ∈ us, u.oneCell' = true) :
    (Instr.storeAt T (.pointer (some ⟨g, o, none⟩)) v).run P w = .ok () (w.setRow g (cur.toList.take o ++ us ++ cur.toList.drop (o + us.length)).toArray) := by
  have hst := run_storeCells_at P g o e us 0 cur w hg (by simpa using hfit) h1
  simp only [Nat.add_zero] at hst
  simp [Instr.storeAt, Instr.sureAddr, storeVar, hv, run_sizeT hT, hl, hst]

end

section
variable {α : Type} {E : Env} {P : Program} {x : α} {γ γ' : List Value} {ω ω' : Own} {w w' : World} {nt : Nat} {st : St} {a : Act} {K : St → Option α}
theorem fill_fok (hE : E.Ok P) {T : TypeId} : ∀ {l : List (Nat × MV)} {cs ds : List MV}, fillF E T l cs = some ds → fillS P T l cs = some ds
  | [], cs, ds, h => h
  | (i, m) :: r, cs, ds, h => by
    simp only [fillF] at h
    split at h
    · rename_i o fT hf
      split at h
      · exact absurd h (by simp)
      · rename_i s hs
        split at h
        · rename_i h1
          split at h
          · rename_i h2
            simp only [fillS]
            rw [fieldE_ok hE hf]
            simp only
            rw [if_pos ⟨by rw [szE_ok hE hs]; exact beq_nat h1, ble_nat h2⟩]
            exact fill_fok hE h
          · exact absurd h (by simp)
        · exact absurd h (by simp)
    · exact absurd h (by simp)

theorem tys_fok (hE : E.Ok P) {T : TypeId} (h : tysE E T = true) : tysOk P T = true := by
  unfold tysE at h
  unfold tysOk
  split at h
  · rename_i fs hk
    rw [kdE_ok hE hk (by simp)]
    simp only
    rw [List.all_eq_true] at h ⊢
    intro f hf
    have := h f hf
    cases hq : lkN E.ty f.2 with
    | none => rw [hq] at this; simp at this
    | some ti => rw [hE.ty _ _ hq]; rfl
  · exact absurd h (by simp)


/-- A row of a known make. -/
theorem row_made {N : List (Nat × Nat) → Owner} {foc : List (Nat × Nat × Nat)} {dp : Bool} {sz n : Nat} {es : List (List MV)} {xs : List Value} {e : TypeId} {g : Nat} (hw : w.heap[g]? = some (.cells xs.toArray e (0, 0))) (hn : es.length = n) (hm : n ≤ maxLen) (hω : ω g = some (N [])) (hlt : g < w.heap.size)
    (hc : CellsP (CR γ ω w N foc dp) sz es xs) : RowR γ ω w N foc dp sz es (.slice (some ⟨g, 0, none⟩) n n) e xs := by
  subst hn
  refine .of ⟨hc.len, .inr ⟨g, es.length, xs.toArray, rfl, Nat.zero_le _, hw, Nat.le_refl _, hm, by simp [hc.len], ?_⟩⟩ hc (fun b hb => ?_)
  · simp [← hc.len]
  · simp [Value.ownBlock] at hb; subst hb; exact ⟨hω, hlt⟩

/-- A new block for a new object. -/
theorem alloc_new (h : Rel γ ω w nt st a) (o : Obj) (hd : Value) : Chg (fun _ => False) γ ω w (γ ++ [hd]) (fun b => if b = w.heap.size then some (.ob γ.length []) else ω b) (w.alloc o) ∧ (∀ b, (w.alloc o).heap.size ≤ b → (if b = w.heap.size then some (Owner.ob γ.length []) else ω b) = none) := by
  obtain ⟨h1, h2⟩ := alloc_chg γ ω w h.lt o (some (.ob γ.length []))
  exact ⟨⟨h1.os, h1.tape, h1.output, h1.size, pre_app γ _, h1.none, h1.keep⟩, h2⟩

theorem zeroE_ok {T e : TypeId} {ti : TI} {dp : Bool} {vs : List Value} (hz : zerosOf vs = some ti.zero) (N : Nat → List (Nat × Nat) → Owner) : (zeroE E dp e ti.zero).length = ti.zero.length ∧ ∀ (i : Nat) (c : MV) (v : Value), (zeroE E dp e ti.zero)[i]? = some c → vs[i]? = some v → (dp = false → np c = true) ∧ CellT γ ω w (N i) c v := by
  obtain ⟨h1, h2, h3⟩ := zerosOf_rep (γ := γ) (ω := ω) (w := w) hz
  have hnp : ∀ {l : List MV} {vs : List Value}, zerosOf vs = some l → ∀ m ∈ l, np m = true := by
    intro l
    induction l with
    | nil => intro vs _ m hm; simp at hm
    | cons y r ih =>
      intro vs hz m hm
      cases vs with
      | nil => simp [zerosOf] at hz
      | cons v q =>
        unfold zerosOf at hz
        split at hz
        · rename_i m' l' hm' hl
          injection hz with hz; injection hz with hz1 hz2; subst hz1; subst hz2
          rcases List.mem_cons.1 hm with rfl | hm
          · unfold mvZero at hm'
            split at hm' <;> first | (injection hm' with hm'; subst hm'; rfl) | exact absurd hm' (by simp)
          · exact ih hl m hm
        · exact absurd hz (by simp)
  have hall := hnp hz
  cases dp with
  | false =>
    refine ⟨by simp [zeroE], fun i c v hc hv => ?_⟩
    simp only [zeroE, List.getElem?_map] at hc
    cases hi : ti.zero[i]? with
    | none => rw [hi] at hc; simp at hc
    | some m =>
      rw [hi] at hc; simp at hc; subst hc
      have hm := hall m (List.mem_of_getElem? hi)
      have : np m.top = true := by cases m <;> first | exact hm | rfl
      exact ⟨fun _ => this, .rep _ _ _ this (h3 i m v hi hv).top⟩
  | true =>
    have key : ∀ (l : List MV) (vs : List Value) (q : Nat), vs.length = l.length → (∀ m ∈ l, np m = true) → (∀ (i : Nat) (c : MV) (v : Value), l[i]? = some c → vs[i]? = some v → Rep γ ω w c v) → (hzL (hofs E e) q l).length = l.length ∧ ∀ (i : Nat) (c : MV) (v : Value), (hzL (hofs E e) q l)[i]? = some c → vs[i]? = some v → CellT γ ω w (N (q + i)) c v := by
      intro l
      induction l with
      | nil => intro vs q _ _ _; exact ⟨rfl, fun i c v hc => by simp [hzL] at hc⟩
      | cons m r ih =>
        intro vs q hl hn hr
        cases vs with
        | nil => simp at hl
        | cons v0 vr =>
          obtain ⟨g1, g2⟩ := ih vr (q + 1) (by simpa using hl) (fun m hm => hn m (by simp [hm])) (fun i c v hc hv => hr (i + 1) c v (by simpa using hc) (by simpa using hv))
          refine ⟨by simp [hzL, g1], fun i c v hc hv => ?_⟩
          cases i with
          | zero =>
            simp [hzL] at hc hv
            subst hv
            have hm := hn m (by simp)
            have hrm := hr 0 m v0 rfl rfl
            have base : CellT γ ω w (N (q + 0)) m v0 := .rep _ _ _ hm hrm
            cases m <;> first | (simp only at hc; subst hc; exact base) | skip
            simp only at hc
            cases hrm
            split at hc
            · subst hc
              exact .row _ false _ [] _ 0 [] (fun _ _ => undef) (World.ownsRow_nil w 0 0 _) (by simp) (by simp) (by simp) (fun j y i c hj => by simp at hj) (fun j y i c hj => by simp at hj) (fun j y i c hj => by simp at hj) (fun b hb => by simp [Value.ownBlock] at hb)
            · subst hc
              exact .rep _ _ _ rfl (.list0 _ _)
          | succ i =>
            have := g2 i c v (by simpa [hzL] using hc) (by simpa using hv)
            rw [show q + (i + 1) = q + 1 + i from by omega]; exact this
    obtain ⟨g1, g2⟩ := key ti.zero vs 0 h1 hall h3
    exact ⟨g1, fun i c v hc hv => ⟨fun h => by simp at h, by have := g2 i c v hc hv; rw [Nat.zero_add] at this; exact this⟩⟩

theorem made_cells {ti : TI} {T e : TypeId} {dp : Bool} (hT : Ty P T ti) {z : Value} (hz : zerosOf z.cells.toList = some ti.zero) (hl : ti.zero.length = ti.size) (hp : 0 < ti.size) (n : Nat) (N : List (Nat × Nat) → Owner) :
    CellsP (CR γ ω w N [] dp) ti.size (List.replicate n (zeroE E dp e ti.zero)) (Go.madeCells z.cells (n * ti.size)).toList := by
  obtain ⟨h1, h2, _⟩ := zerosOf_rep (γ := γ) (ω := ω) (w := w) hz
  have hzs : z.cells.size = ti.size := by rw [← Array.length_toList, h1, hl]
  have hget : ∀ j i, j < n → i < ti.size → (Go.madeCells z.cells (n * ti.size)).toList[j * ti.size + i]? = z.cells.toList[i]? := by
    intro j i hj hi
    have hlt : j * ti.size + i < n * ti.size := by
      have : (j + 1) * ti.size ≤ n * ti.size := Nat.mul_le_mul_right _ hj
      rw [Nat.add_mul, Nat.one_mul] at this; omega
    have e2 : (j * ti.size + i) % ti.size = i := by
      rw [Nat.add_comm, Nat.add_mul_mod_self_right, Nat.mod_eq_of_lt hi]
    simp only [Go.madeCells, Array.toList_map, Array.toList_range, List.getElem?_map, List.getElem?_range hlt, Option.map_some, hzs, e2]
    have : i < z.cells.size := by omega
    rw [getD_bang _ _ this]
    simp [this]
  have hzl := (zeroE_ok (E := E) (T := T) (e := e) (dp := dp) (γ := γ) (ω := ω) (w := w) hz (fun _ => N)).1
  refine ⟨by simp [Go.madeCells], ?_, ?_, ?_⟩
  · intro e he; rw [List.eq_of_mem_replicate he, hzl]; exact hl
  · intro u hu
    obtain ⟨q, hq⟩ := List.getElem?_of_mem hu
    have hql : q < n * ti.size := by
      have := (List.getElem?_eq_some_iff.1 hq).1
      simpa [Go.madeCells] using this
    have h4 := hget (q / ti.size) (q % ti.size) (Nat.div_lt_of_lt_mul (by rw [Nat.mul_comm]; exact hql)) (Nat.mod_lt _ hp)
    rw [Nat.div_add_mod' q ti.size, hq] at h4
    exact h2 u (List.mem_of_getElem? h4.symm)
  · intro j e' hj i c hi
    have hjn : j < n := by have := (List.getElem?_eq_some_iff.1 hj).1; simpa using this
    have he : e' = zeroE E dp e ti.zero := List.eq_of_mem_replicate (List.mem_of_getElem? hj)
    subst he
    have hin : i < ti.size := by rw [← hl, ← hzl]; exact (List.getElem?_eq_some_iff.1 hi).1
    have hzi : i < z.cells.toList.length := by rw [Array.length_toList, hzs]; exact hin
    refine ⟨z.cells.toList[i], by rw [hget j i hjn hin]; exact List.getElem?_eq_getElem hzi, ?_⟩
    have := (zeroE_ok (E := E) (T := T) (e := e) (dp := dp) (γ := γ) (ω := ω) (w := w) hz (fun i p => N ((j, i) :: p))).2 i c _ hi (List.getElem?_eq_getElem hzi)
    simp only [CR, lkF]; exact this

theorem mk_ok (hE : E.Ok P) (h : Rel γ ω w nt st a) {hd : List Nat} {d : Nat} (hdn : d < nt) {T : TypeId} {l c : Operand} (hx : mkF E hd st d T l c K = some x) :
    Does P nt γ ω w a (some d) (Instr.makeSlice T (a.eval l) (a.eval c)) K x := by
  unfold mkF at hx
  split at hx
  · rename_i e hk
    obtain ⟨d1, hd1, hkd1⟩ := und_of_kd (kdE_ok hE hk (by simp)) (by simp)
    have := tk_slice hkd1; subst this
    split at hx
    · rename_i ti hti
      have hT := ty_of (hE.ty _ _ hti)
      obtain ⟨i, z, hi, hisz, hib, hiz, hz1, hz2, hz3⟩ := hT.info
      replace hx := sB_some hx
      obtain ⟨hby, hx⟩ := hx
      have hby := ble_nat hby
      split at hx
      · exact absurd hx (by simp)
      · rename_i s hs
        have hp : 0 < ti.size := by omega
        split at hx
        · rename_i k n hl
          have e1 := (h.val hl).int
          have key : ∀ (k' : IntKind), a.eval c = .int k' n → 0 ≤ n → n ≤ 1000000000 → K (st.newO (some d) (.row (memN hd d) ti.size (List.replicate n.toNat (zeroE E (memN hd d) e ti.zero)) [])) = some x → Does P nt γ ω w a (some d) (Instr.makeSlice T (a.eval l) (a.eval c)) K x := by
            intro k' e2 h0 h1 hK
            have hn : n = (n.toNat : Int) := by omega
            have hb2 : i.bytes * n.toNat ≤ 281474976710656 := by
              have : i.bytes * n.toNat ≤ 100000 * 1000000000 := Nat.mul_le_mul (by omega) (by omega)
              omega
            have hr := run_make (P := P) w T e i z hd1 hi hiz k k' n n h0 (Int.le_refl _) (by
              have : ((i.bytes * n.toNat : Nat) : Int) ≤ 281474976710656 := by omega
              rw [Int.natCast_mul] at this
              rw [← hn] at this; exact this) (by omega)
            obtain ⟨hcg, hlt'⟩ := alloc_new h (.cells (madeCells z.cells (n.toNat * i.size)) e) (.slice (some ⟨w.heap.size, 0, none⟩) n.toNat n.toNat)
            have hcells := made_cells (E := E) (e := e) (dp := memN hd d) (γ := γ ++ [.slice (some ⟨w.heap.size, 0, none⟩) n.toNat n.toNat]) (ω := fun b => if b = w.heap.size then some (.ob γ.length []) else ω b) (w := w.alloc (.cells (madeCells z.cells (n.toNat * i.size)) e)) hT hz1 hz2 hp n.toNat (.ob γ.length)
            refine ⟨_, _, by rw [e1, e2]; exact hr, _, _, _, hcg.mono (fun _ h => h.elim), h.fresh hcg hlt' (o := .row (memN hd d) ti.size (List.replicate n.toNat (zeroE E (memN hd d) e ti.zero)) []) ⟨e, _, row_made (e := e) (by rw [hisz]; simpa using heap_alloc_new w _) (by simp) (by simp only [maxLen]; omega) (by simp) (by simp) hcells⟩ rfl rfl (fun t ht => by injection ht with ht; subst ht; exact hdn), hK⟩
          split at hx
          · rename_i heq
            replace hx := gd_some hx
            obtain ⟨hn, hx⟩ := hx
            have e2 : a.eval c = .int k n := by
              cases l <;> cases c <;> simp only [eqOp] at heq <;> first | (rw [← beq_nat heq]; exact e1) | exact absurd heq (by simp)
            exact key k e2 hn.1 hn.2 hx
          · split at hx
            · rename_i k' n' hc
              replace hx := gd_some hx
              obtain ⟨⟨rfl, hn⟩, hx⟩ := hx
              exact key k' (h.val hc).int hn.1 hn.2 hx
            · exact absurd hx (by simp)
        · exact absurd hx (by simp)
    · exact absurd hx (by simp)
  · exact absurd hx (by simp)

theorem all_noTup : ∀ {ms : List MV}, ms.all noTup = true → ∀ m ∈ ms, (∀ vs, m ≠ .tup vs) ∧ m ≠ .gone := by
  intro ms h m hm
  exact noTup_ne (List.all_eq_true.1 h m hm)

theorem allNp_get : ∀ {es : List (List MV)}, allNp es = true → ∀ (j : Nat) (e : List MV), es[j]? = some e → npL e = true
  | [], _, j, e, hj => by simp at hj
  | y :: r, h, j, e, hj => by
    simp only [allNp, Bool.and_eq_true] at h
    cases j with
    | zero => simp at hj; subst hj; exact h.1
    | succ j => exact allNp_get h.2 j e (by simpa using hj)

theorem flat_cells {R : Nat → Nat → MV → Value → Prop} {sz : Nat} {es : List (List MV)} {xss : List (List Value)} (hl : xss.length = es.length) (hw : ∀ e ∈ es, e.length = sz)
    (h : ∀ (i : Nat) (e : List MV) (us : List Value), es[i]? = some e → xss[i]? = some us → us.length = e.length ∧ (∀ u ∈ us, u.oneCell' = true) ∧ ∀ (j : Nat) (c : MV) (u : Value), e[j]? = some c → us[j]? = some u → R i j c u) :
    CellsP R sz es xss.flatten := by
  induction es generalizing xss R with
  | nil =>
    have : xss = [] := List.eq_nil_of_length_eq_zero (by simpa using hl)
    subst this
    exact .nil _ _
  | cons e es ih =>
    match xss, hl with
    | us :: xss, hl =>
      have h0 := h 0 e us rfl rfl
      have hz : e.length = sz := hw e (by simp)
      have ih' := ih (xss := xss) (R := fun i => R (i + 1)) (by simpa using hl) (fun e he => hw e (by simp [he])) (fun i e us g1 g2 => h (i + 1) e us (by simpa using g1) (by simpa using g2))
      have one : CellsP R sz [e] us := by
        refine ⟨by simp [h0.1, hz], by simpa using hz, h0.2.1, fun j e' hj i c hi => ?_⟩
        cases j with
        | zero =>
          simp at hj; subst hj
          have hi' : i < us.length := by rw [h0.1]; exact (List.getElem?_eq_some_iff.1 hi).1
          exact ⟨us[i], by simp [hi'], h0.2.2 i c _ hi (List.getElem?_eq_getElem hi')⟩
        | succ j => simp at hj
      have := one.append ih'
      simp only [List.singleton_append, List.flatten_cons] at this ⊢
      refine this.mono (fun j i c u _ hr => ?_)
      split at hr
      · exact hr
      · rename_i hge
        simp at hge
        simp only [List.length_cons, List.length_nil] at hr
        rw [show j - (0 + 1) + 1 = j from by omega] at hr; exact hr

/-- A row out of parts: what the machine does. -/
theorem bs_run (hE : E.Ok P) {ω1 : Own} {st' : St} (hR1 : Rel γ ω1 w nt st' a) {T : TypeId} {len : Nat} {parts : Array (Nat × Operand)} {e : TypeId} {sz : Nat} {ms : List MV} {es : List (List MV)} (hk : kdE E T = .slice e) (hsz : szE E e = sz + 1)
    (hms : shvs st' (parts.toList.map (·.2)) = some ms) (hes : litE 0 ((parts.toList.map (·.1)).zip ms) = some es) (h1 : Nat.beq es.length len = true) (h2 : Nat.ble (len * (sz + 1)) 16777216 = true) (h3 : ms.all noTup = true) (h4 : wid (sz + 1) es = true) (h5 : allNp es = true) :
    ∃ us : List Value, (Instr.buildSlice T len (parts.map fun (i, x) => (i, a.eval x))).run P w = .ok (.slice (some ⟨w.heap.size, 0, none⟩) len len) (w.alloc (.cells us.toArray e)) ∧ CellsP (FlatR γ ω1 w) (sz + 1) es us := by
  obtain ⟨d1, hd1, hkd1⟩ := und_of_kd (kdE_ok hE hk (by simp)) (by simp)
  have := tk_slice hkd1; subst this
  have hsz' := szE_ok hE hsz
  have hlen := beq_nat h1
  have hle := ble_nat h2
  have hw := wid_all h4
  obtain ⟨xss, hxl, hxs⟩ := parts_cells hR1 hms (all_noTup h3)
  obtain ⟨hes1, hes2⟩ := litE_ok hes
  obtain ⟨hml, _⟩ := shvs_rep hR1 hms
  have hpl : parts.toList.length = ms.length := by simpa using hml
  have hzl : ((parts.toList.map (·.1)).zip ms).length = ms.length := by simp [hpl]
  have hel : es.length = ms.length := by rw [hes1, List.length_map, hzl]
  have heg : ∀ (i : Nat) (m : MV), ms[i]? = some m → es[i]? = some (cellsM m) := by
    intro i m hm
    have hi : i < parts.toList.length := by rw [hpl]; exact (List.getElem?_eq_some_iff.1 hm).1
    have : ((parts.toList.map (·.1)).zip ms)[i]? = some ((parts.toList[i]).1, m) := zip_get (by rw [List.getElem?_map, List.getElem?_eq_getElem hi]; rfl) hm
    rw [hes1, List.getElem?_map, this]; rfl
  obtain ⟨ti, hti, htsz⟩ := szOf_ne (P := P) (T := e) (by omega)
  have hT := ty_of hti
  have hlt24 : ¬ (len * ti.size > 2 ^ 24) := by rw [htsz, hsz']; omega
  have hfill : ∀ zero : Array Value, Instr.fill (fun i => some (i * ti.size, ti.size)) ((Array.range (len * ti.size)).map fun q => zero[q % zero.size]!) (parts.map fun (i, x) => (i, a.eval x)).toList = some xss.flatten.toArray := by
    intro zero
    have := fill_lit ti.size (parts.map fun (i, x) => (i, a.eval x)).toList 0 [] ((List.range (len * ti.size)).map fun q => zero[q % zero.size]!) xss (by simp) (by simp [← hlen, hel, ← hpl]) (by simp [hxl, ← hpl]) (fun q p xs hp hx => by
      simp only [Array.toList_map, List.getElem?_map] at hp
      cases hq : parts.toList[q]? with
      | none => rw [hq] at hp; simp at hp
      | some y =>
        rw [hq] at hp; simp at hp; subst hp
        have hql := (List.getElem?_eq_some_iff.1 hx).1
        have hm : ms[q]? = some ms[q] := List.getElem?_eq_getElem (by omega)
        obtain ⟨c1, c2, c3, c4⟩ := hxs q ms[q] y.2 xs hm (by rw [List.getElem?_map, hq]; rfl) hx
        refine ⟨?_, c1, ?_⟩
        · have hz : ((parts.toList.map (·.1)).zip ms)[q]? = some (y.1, ms[q]) := zip_get (by rw [List.getElem?_map, hq]; rfl) hm
          have := hes2 q _ hz
          simpa using this
        · rw [c2, htsz, hsz']; exact hw _ (List.mem_of_getElem? (heg q _ hm)))
    have e : (Array.range (len * ti.size)).map (fun q => zero[q % zero.size]!) = ((List.range (len * ti.size)).map fun q => zero[q % zero.size]!).toArray := Array.ext' (by simp)
    rw [e]
    simpa using this
  have e4 : (parts.map fun (i, x) => (i, a.eval x)).toList = parts.toList.map fun x => (x.1, a.eval x.2) := by simp
  have hrun : (Instr.buildSlice T len (parts.map fun (i, x) => (i, a.eval x))).run P w = .ok (.slice (some ⟨w.heap.size, 0, none⟩) len len) (w.alloc (.cells xss.flatten.toArray e)) := by
    by_cases h0 : len * ti.size = 0
    · have hf := hfill #[]
      have hl0 : len = 0 := by
        rcases Nat.mul_eq_zero.1 h0 with h1 | h1
        · exact h1
        · exact absurd h1 (by omega)
      subst hl0
      simp only [Nat.zero_mul] at hf
      rw [e4] at hf
      unfold Instr.buildSlice
      simp only [Sem.run_bind, run_underlying hd1, Result.andThen_ok, run_sizeT hT]
      simp only [Array.range_zero', List.map_toArray, List.map_nil] at hf
      simp [hf, newRow, Array.range_zero']
    · obtain ⟨z, hz, _⟩ := run_zeroT (P := P) (w := w) hT
      have hf := hfill z.cells
      rw [e4] at hf
      unfold Instr.buildSlice
      simp only [Sem.run_bind, run_underlying hd1, Result.andThen_ok, run_sizeT hT]
      have h24 : ¬ (16777216 < len * ti.size) := by omega
      simp [h0, hz, hf, h24, newRow]
  have hcells : CellsP (FlatR γ ω1 w) (sz + 1) es xss.flatten := by
    refine flat_cells (by rw [hxl, hel]) hw (fun i x us g1 g2 => ?_)
    have hi : i < ms.length := by rw [← hel]; exact (List.getElem?_eq_some_iff.1 g1).1
    have hm : ms[i]? = some ms[i] := List.getElem?_eq_getElem hi
    have hx : x = cellsM ms[i] := by rw [heg i _ hm] at g1; injection g1 with g1; exact g1.symm
    have hnp := allNp_get h5 i x g1
    subst hx
    have hi2 : i < parts.toList.length := by omega
    obtain ⟨c1, c2, c3, c4⟩ := hxs i ms[i] (parts.toList[i]).2 us hm (by rw [List.getElem?_map, List.getElem?_eq_getElem hi2]; rfl) g2
    exact ⟨c2, c3, fun j c u hj hu => ⟨npL_get hnp j c hj, c4 j c u hj hu⟩⟩
  exact ⟨_, hrun, hcells⟩

theorem bs_ok (hE : E.Ok P) (h : Rel γ ω w nt st a) {d : Nat} (hdn : d < nt) {T : TypeId} {len : Nat} {parts : Array (Nat × Operand)} (hx : bsF E st d T len parts.toList K = some x) :
    Does P nt γ ω w a (some d) (Instr.buildSlice T len (parts.map fun (i, x) => (i, a.eval x))) K x := by
  unfold bsF at hx
  split at hx
  · rename_i e hk
    split at hx
    · exact absurd hx (by simp)
    · rename_i sz hsz
      replace hx := sO_some hx; obtain ⟨st', hst, hx⟩ := hx
      replace hx := sO_some hx; obtain ⟨ms, hms, hx⟩ := hx
      replace hx := sO_some hx; obtain ⟨es, hes, hx⟩ := hx
      replace hx := sB_some hx; obtain ⟨h1, hx⟩ := hx
      replace hx := sB_some hx; obtain ⟨h2, hx⟩ := hx
      replace hx := sB_some hx; obtain ⟨h3, hx⟩ := hx
      replace hx := sB_some hx; obtain ⟨h4, hx⟩ := hx
      replace hx := sB_some hx; obtain ⟨h5, hx⟩ := hx
      have hlen := beq_nat h1
      have hle := ble_nat h2
      obtain ⟨ω1, hc1, hR1⟩ := h.shrs _ hst
      obtain ⟨us, hrun, hcells⟩ := bs_run hE hR1 hk hsz hms hes h1 h2 h3 h4 h5
      obtain ⟨hcg, hlt'⟩ := alloc_new hR1 (.cells us.toArray e) (.slice (some ⟨w.heap.size, 0, none⟩) len len)
      refine ⟨_, _, hrun, _, _, _, hc1.trans (hcg.mono (fun _ h => h.elim)), hR1.fresh hcg hlt' (o := .row false (sz + 1) es []) ⟨e, _, row_made (e := e) (heap_alloc_new w _) hlen ?_ (by simp) (by simp) (hcells.mono (fun j i c u _ hr => by simp only [CR, lkF]; exact ⟨fun _ => hr.1, .rep _ _ _ hr.1 (hr.2.chg hcg)⟩))⟩ rfl rfl (fun t ht => by injection ht with ht; subst ht; exact hdn), hx⟩
      have : len ≤ len * (sz + 1) := Nat.le_mul_of_pos_right _ (by omega)
      simp only [maxLen]; omega
  · exact absurd hx (by simp)

theorem bld_ok (hE : E.Ok P) (h : Rel γ ω w nt st a) {hd : List Nat} {d : Option Tmp} (hdn : ∀ t, d = some t → t < nt) {T : TypeId} {parts : Array (Nat × Operand)} (hx : bldF E hd st d T parts.toList K = some x) :
    ∃ v, (Instr.build T (parts.map fun (i, x) => (i, a.eval x))).run P w = .ok v w ∧ ∃ st', Rel γ ω w nt st' (a.put d v) ∧ K st' = some x := by
  unfold bldF at hx
  split at hx
  · rename_i ti hti
    have hT := ty_of (hE.ty _ _ hti)
    replace hx := sO_some hx; obtain ⟨ms, hms, hx⟩ := hx
    replace hx := sO_some hx; obtain ⟨cs, hcs, hx⟩ := hx
    replace hx := sB_some hx; obtain ⟨h3, hx⟩ := hx
    replace hx := sB_some hx; obtain ⟨h4, hx⟩ := hx
    replace hx := sB_some hx; obtain ⟨h5, hx⟩ := hx
    have ht := tys_fok hE h5
    obtain ⟨xss, hxl, hxs⟩ := parts_cells h hms (all_noTup h3)
    obtain ⟨hml, _⟩ := shvs_rep h hms
    have hpl : parts.toList.length = ms.length := by simpa using hml
    obtain ⟨z, hz, hz1, hz2⟩ := run_zeroT (P := P) (w := w) hT
    obtain ⟨z1, z2, z3⟩ := zerosOf_rep (γ := γ) (ω := ω) (w := w) hz1
    have hzc0 : CellsR γ ω w ti.zero z.cells.toList := ⟨z1, z2, z3⟩
    have hzct : CellsR γ ω w (ti.zero.map MV.top) z.cells.toList := by
      refine ⟨by simpa using z1, z2, fun i c u hc hu => ?_⟩
      rw [List.getElem?_map] at hc
      cases hi : ti.zero[i]? with
      | none => rw [hi] at hc; simp at hc
      | some m => rw [hi] at hc; simp at hc; subst hc; exact (z3 i m u hi hu).top
    have hfin : ∀ {zs : List MV}, CellsR γ ω w zs z.cells.toList → fillF E T ((parts.toList.map (·.1)).zip ms) zs = some cs → ∃ v, (Instr.build T (parts.map fun (i, x) => (i, a.eval x))).run P w = .ok v w ∧ ∃ st', Rel γ ω w nt st' (a.put d v) ∧ K st' = some x := by
      intro zs hzc hcs
      have hcs := fill_fok hE hcs
      have hkd : ∃ fs, kdOf P T = .strct fs ∧ ∀ f ∈ fs, (tiOf P f.2).isSome = true := by
        unfold tysOk at ht
        split at ht
        · rename_i fs hfs; exact ⟨fs, hfs, by simpa using ht⟩
        · exact absurd ht (by simp)
      obtain ⟨fs, hfs, hft⟩ := hkd
      obtain ⟨dd, hdd, hkk⟩ := und_of_kd hfs (by simp)
      obtain ⟨avs, rfl, rfl⟩ := tk_strct hkk
      have hall : ∀ f ∈ avs, ∃ ti, tiOf P f.type = some ti := by
        intro f hf
        have := hft (f.offset, f.type) (by simp; exact ⟨f, hf, rfl, rfl⟩)
        exact Option.isSome_iff_exists.1 this
      have hplc : ∀ (i o : Nat) (fT : TypeId), fieldOf P T i = some (o, fT) → szOf P fT ≠ 0 → (avs.map fun f => (f.offset, szOf P f.type))[i]? = some (o, szOf P fT) := by
        intro i o fT hf _
        obtain ⟨avs', hu', fd, g1, g2, g3⟩ := field_desc hf
        rw [hdd] at hu'; injection hu' with hu'; injection hu' with hu'; subst hu'
        rw [Array.getElem?_map, g1]; simp [g2, g3]
      obtain ⟨us', hfill, hus⟩ := fillS_ok (γ := γ) (ω := ω) (w := w) hdd _ hplc (vs := (parts.toList.map fun x => (x.1, a.eval x.2))) hcs (by simp [hpl]) (fun q x y hx hy => by
        rw [List.getElem?_map] at hy
        cases hq : parts.toList[q]? with
        | none => rw [hq] at hy; simp at hy
        | some p =>
          rw [hq] at hy; simp at hy; subst hy
          have hql : q < ms.length := by rw [← hpl]; exact (List.getElem?_eq_some_iff.1 hq).1
          have hmq : ms[q]? = some ms[q] := List.getElem?_eq_getElem hql
          have hz' : ((parts.toList.map (·.1)).zip ms)[q]? = some (p.1, ms[q]) := zip_get (by rw [List.getElem?_map, hq]; rfl) hmq
          rw [hz'] at hx; injection hx with hx; subst hx
          have hxq : xss[q]? = some xss[q] := List.getElem?_eq_getElem (by omega)
          obtain ⟨c1, c2, c3, c4⟩ := hxs q ms[q] p.2 xss[q] hmq (by rw [List.getElem?_map, hq]; rfl) hxq
          refine ⟨rfl, ?_, xss[q], c1, c2, c3, c4⟩
          have := List.all_eq_true.1 h4 ms[q] (List.getElem_mem _)
          intro e
          rw [List.length_eq_zero_iff.1 e] at this
          simp at this) hzc
      refine ⟨.agg us'.toArray, ?_, putO st d (.agg cs), h.putO hdn (.agg cs us' hus.1 hus.2.2 hus.2.1), hx⟩
      have e4 : (parts.map fun (i, x) => (i, a.eval x)).toList = parts.toList.map fun x => (x.1, a.eval x.2) := by simp
      have ez : z.cells.toList.toArray = z.cells := by simp
      rw [ez] at hfill
      unfold Instr.build
      simp only [Sem.run_bind, hz, Result.andThen_ok, run_underlying hdd, run_places hall, e4, hfill]
      rfl
    split at hcs
    · split at hcs
      · exact hfin hzc0 hcs
      · exact hfin hzct hcs
    · exact hfin hzc0 hcs
  · exact absurd hx (by simp)

/-! #### A variable in memory -/
theorem newBox (h : Rel γ ω w nt st a) {cs : List MV} {us : List Value} (hc : CellsR γ ω w cs us) (e : TypeId) {d : Option Tmp} (hdn : ∀ t, d = some t → t < nt) :
    ∃ γ' ω', Chg NotOuter γ ω w γ' ω' (w.alloc (.cells us.toArray e)) ∧ Rel γ' ω' (w.alloc (.cells us.toArray e)) nt (st.newP d cs) (a.put d (.pointer (some ⟨w.heap.size, 0, none⟩))) := by
  obtain ⟨hcg, hlt'⟩ := alloc_new h (.cells us.toArray e) (.pointer (some ⟨w.heap.size, 0, none⟩))
  have hR := h.new hcg hlt' (o := .box cs) ⟨w.heap.size, us.toArray, e, rfl, by simp, by simp, heap_alloc_new w _, by simp [hc.1], fun i c hi => by
    have hiu : i < us.length := by rw [hc.1]; exact (List.getElem?_eq_some_iff.1 hi).1
    exact ⟨us[i], by simp [hiu], hc.2.1 _ (List.getElem_mem hiu), (hc.2.2 i c _ hi (List.getElem?_eq_getElem hiu)).chg hcg⟩⟩
  refine ⟨_, _, hcg.mono (fun _ h => h.elim), hR.putO hdn (.ptr st.B.length 0 w.heap.size ?_)⟩
  rw [← h.len]; simp

theorem newFrz (h : Rel γ ω w nt st a) {cs : List MV} {us : List Value} (hc : CellsR γ ω w cs us) (hn : npL cs = true) (e : TypeId) :
    ∃ ω', Chg (fun _ => False) γ ω w γ ω' (w.alloc (.cells us.toArray e)) ∧ Rel γ ω' (w.alloc (.cells us.toArray e)) nt st a ∧ Rep γ ω' (w.alloc (.cells us.toArray e)) (.cptr cs 0) (.pointer (some ⟨w.heap.size, 0, none⟩)) := by
  obtain ⟨hcg, hlt'⟩ := alloc_chg γ ω w h.lt (.cells us.toArray e) none
  refine ⟨_, hcg, h.grow hcg hlt', ?_⟩
  have := Rep.cptr (γ := γ) (ω := fun b => if b = w.heap.size then none else ω b) (w := w.alloc (.cells us.toArray e)) cs 0 w.heap.size 0 (fun i => (us[i]?).getD undef) (by simp) (by simp) hn
    (fun i c hi => by
      have hiu : i < us.length := by rw [hc.1]; exact (List.getElem?_eq_some_iff.1 hi).1
      have e1 : (us[i]?).getD undef = us[i] := by rw [List.getElem?_eq_getElem hiu]; rfl
      rw [e1, Nat.zero_add]
      refine ⟨?_, hc.2.1 _ (List.getElem_mem hiu)⟩
      simp only [World.cell?, heap_alloc_new]
      simp [hiu])
    (fun i c hi => by
      have hiu : i < us.length := by rw [hc.1]; exact (List.getElem?_eq_some_iff.1 hi).1
      have e1 : (us[i]?).getD undef = us[i] := by rw [List.getElem?_eq_getElem hiu]; rfl
      rw [e1]
      exact (hc.2.2 i c _ hi (List.getElem?_eq_getElem hiu)).chg hcg)
  simpa using this

theorem box_ok (h : Rel γ ω w nt st a) {fz : Bool} {d : Option Tmp} (hdn : ∀ t, d = some t → t < nt) {T : TypeId} {y : Operand} (hx : boxF fz st d y K = some x) :
    Does P nt γ ω w a d (Instr.box T (a.eval y)) K x := by
  unfold boxF at hx
  split at hx
  · replace hx := sO_some hx; obtain ⟨st', hst, hx⟩ := hx
    replace hx := sO_some hx; obtain ⟨m, hm, hx⟩ := hx
    replace hx := sB_some hx; obtain ⟨h1, hx⟩ := hx
    replace hx := sB_some hx; obtain ⟨h2, hx⟩ := hx
    obtain ⟨ω1, hc1, hR1⟩ := h.shr hst
    obtain ⟨us, g1, g2, g3, g4⟩ := cellsM_ok (hR1.shv hm) (noTup_ne h1).1 (noTup_ne h1).2
    have hc : CellsR γ ω1 w (cellsM m) us := ⟨g2, g3, g4⟩
    have hrun : (Instr.box T (a.eval y)).run P w = .ok (.pointer (some ⟨w.heap.size, 0, none⟩)) (w.alloc (.cells us.toArray T)) := by
      simp [Instr.box, newVar, newRow, g1]
    obtain ⟨ω2, q1, q2, q3⟩ := newFrz hR1 hc h2 T
    exact ⟨_, _, hrun, γ, ω2, _, hc1.trans (q1.mono (fun _ h => h.elim)), q2.putO hdn q3, hx⟩
  · replace hx := sO_some hx; obtain ⟨m, hm, hx⟩ := hx
    replace hx := sB_some hx; obtain ⟨h1, hx⟩ := hx
    obtain ⟨us, g1, g2, g3, g4⟩ := cellsM_ok (h.shv hm) (noTup_ne h1).1 (noTup_ne h1).2
    have hc : CellsR γ ω w (cellsM m) us := ⟨g2, g3, g4⟩
    have hrun : (Instr.box T (a.eval y)).run P w = .ok (.pointer (some ⟨w.heap.size, 0, none⟩)) (w.alloc (.cells us.toArray T)) := by
      simp [Instr.box, newVar, newRow, g1]
    obtain ⟨γ2, ω2, q1, q2⟩ := newBox h hc T hdn
    exact ⟨_, _, hrun, γ2, ω2, _, q1, q2, hx⟩

theorem alo_ok (hE : E.Ok P) (h : Rel γ ω w nt st a) {hd : List Nat} {fz : Bool} {d : Option Tmp} (hdn : ∀ t, d = some t → t < nt) {T : TypeId} (hx : aloF E hd fz st d T K = some x) :
    Does P nt γ ω w a d (Instr.alloc T true (.tuple #[])) K x := by
  unfold aloF at hx
  split at hx
  · rename_i ti hti
    have hT := ty_of (hE.ty _ _ hti)
    obtain ⟨z, hz, hz1, hz2⟩ := run_zeroT (P := P) (w := w) hT
    obtain ⟨z1, z2, z3⟩ := zerosOf_rep (γ := γ) (ω := ω) (w := w) hz1
    have hc : CellsR γ ω w ti.zero z.cells.toList := ⟨z1, z2, z3⟩
    have hct : CellsR γ ω w (ti.zero.map MV.top) z.cells.toList := by
      refine ⟨by simpa using z1, z2, fun i c u hc hu => ?_⟩
      rw [List.getElem?_map] at hc
      cases hi : ti.zero[i]? with
      | none => rw [hi] at hc; simp at hc
      | some m => rw [hi] at hc; simp at hc; subst hc; exact (z3 i m u hi hu).top
    have hrun : (Instr.alloc T true (.tuple #[])).run P w = .ok (.pointer (some ⟨w.heap.size, 0, none⟩)) (w.alloc (.cells z.cells.toList.toArray T)) := by
      simp [Instr.alloc, hz, newVar, newRow]
    split at hx
    · replace hx := sB_some hx; obtain ⟨h2, hx⟩ := hx
      obtain ⟨ω2, q1, q2, q3⟩ := newFrz h hct h2 T
      exact ⟨_, _, hrun, γ, ω2, _, q1.mono (fun _ h => h.elim), q2.putO hdn q3, hx⟩
    · have fin : ∀ {cs : List MV}, CellsR γ ω w cs z.cells.toList → K (st.newP d cs) = some x → Does P nt γ ω w a d (Instr.alloc T true (.tuple #[])) K x := by
        intro cs hc hx
        obtain ⟨γ2, ω2, q1, q2⟩ := newBox h hc T hdn
        exact ⟨_, _, hrun, γ2, ω2, _, q1, q2, hx⟩
      split at hx
      · rename_i hbd
        obtain ⟨hT2, p, v, hz0, hp, hv⟩ : T = bldT ∧ ∃ p v, z.cells.toList = [p, v] ∧ p = .pointer none ∧ v = .slice none 0 0 := by
          unfold isBld at hbd
          split at hbd
          · rename_i ht
            split at hbd
            · rename_i heq
              rw [heq] at z1 z3
              simp only [List.length_cons, List.length_nil] at z1
              obtain ⟨p, v, e⟩ : ∃ p v, z.cells.toList = [p, v] := by
                match z.cells.toList, z1 with
                | [p, v], _ => exact ⟨p, v, rfl⟩
              rw [e] at z3
              have r1 := z3 0 .nilptr p rfl rfl
              have r2 := z3 1 .nil v rfl rfl
              refine ⟨beq_nat ht, p, v, e, ?_, ?_⟩
              · cases r1; rfl
              · cases r2; rfl
            · exact absurd hbd (by simp)
          · exact absurd hbd (by simp)
        subst hp; subst hv; subst hT2
        rw [hz0] at hrun
        obtain ⟨hcg, hlt'⟩ := alloc_new h (.cells #[.pointer none, .slice none 0 0] bldT) (.pointer (some ⟨w.heap.size, 0, none⟩))
        have hR := h.new hcg hlt' (o := .bld .empty) ⟨w.heap.size, .pointer none, .slice none 0 0, rfl, by simp, by simp, heap_alloc_new w _, .inl rfl, World.ownsRow_nil _ 0 bldE 1, fun b hb => by simp [Value.ownBlock] at hb⟩
        refine ⟨_, _, hrun, _, _, _, hcg.mono (fun _ h => h.elim), hR.putO hdn (.ptr st.B.length 0 w.heap.size ?_), hx⟩
        rw [← h.len]; simp
      · split at hx
        · split at hx
          · exact fin hc hx
          · exact fin hct hx
        · exact fin hc hx
  · exact absurd hx (by simp)
end
end Go.Pv
end
