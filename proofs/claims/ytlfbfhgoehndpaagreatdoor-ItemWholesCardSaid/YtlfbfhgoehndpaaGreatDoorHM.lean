/- The library of this work, H texts, part M: calls; one operation. -/
import Derived.Test.YtlfbfhgoehndpaaGreatDoorHL
import Derived.Test.YtlfbfhgoehndpaaGreatDoorHKa
import Derived.Test.YtlfbfhgoehndpaaGreatDoorHKd
set_option linter.unusedVariables false
set_option linter.unusedSimpArgs false
noncomputable section
namespace Go.Pv

section
variable {α : Type}

/-! ### Words -/
def flatB : Bs → Bool
  | .int _ => true
  | .bool => true
  | .str => true
  | _ => false
def flatBs : List Bs → Bool
  | [] => true
  | b :: r => flatB b && flatBs r
def flatS : Sh → Bool
  | .c b => flatB b
  | .agg l => flatBs l
def allFlat : List Sh → Bool
  | [] => true
  | s :: r => flatS s && allFlat r

mutual
/-- A value that is the same everywhere. -/
def flatM : MV → Bool
  | .int _ _ => true
  | .bool _ => true
  | .str _ => true
  | .agg cs => flatL cs
  | .tup cs => flatL cs
  | _ => false
def flatL : List MV → Bool
  | [] => true
  | m :: r => flatM m && flatL r
end

def dRf (k : Nat) (m : MV) (o : Option α) : Option α := match m with
  | .ref k' => sB (Nat.beq k' k) o
  | _ => bot α
def dPt (k o : Nat) (m : MV) (K : Option α) : Option α := match m with
  | .ptr k' o' => sB (Nat.beq k' k && Nat.beq o' o) K
  | _ => bot α
def dBx (o : Option Ob) (K : List MV → Option α) : Option α := match o with
  | some (.box cs) => K cs
  | _ => bot α
def dRw (dp : Bool) (sz : Nat) (o : Option Ob) (K : List (List MV) → Option α) : Option α := match o with
  | some (.row dp' sz' es []) => sB (dp == dp' && Nat.beq sz sz') (K es)
  | _ => bot α
def dMp (dp : Bool) (o : Option Ob) (K : List (MKey × MV) → Option α) : Option α := match o with
  | some (.map dp' m []) => sB (dp == dp') (K m)
  | _ => bot α
def dBd (o : Option Ob) (K : ByteArray → Option α) : Option α := match o with
  | some (.bld s) => K s
  | _ => bot α
/-- A value read under other numbers. -/
def rdB (σ : Ren) (b : Bs) (m : MV) (K : MV → Option α) : Option α := match b with
  | .any => npG [m] (K m)
  | .ref k => dRf k m (K (ren σ (.ref k)))
  | .ptr k o => dPt k o m (K (ren σ (.ptr k o)))
  | b => dBs b m K
def rdC (σ : Ren) : List Bs → List MV → (List MV → Option α) → Option α
  | [], cs, K => unN cs (K [])
  | b :: r, cs, K => unC cs fun m cs' => rdB σ b m fun m' => rdC σ r cs' fun l => K (m' :: l)
def rdS (σ : Ren) (s : Sh) (m : MV) (K : MV → Option α) : Option α := match s with
  | .c b => rdB σ b m K
  | .agg l => dA m fun cs => rdC σ l cs fun ds => K (.agg ds)
/-- Results. -/
def unR (σ : Ren) : List Sh → Res → (Res → Option α) → Option α
  | [], r, K => unN r (K [])
  | s :: q, r, K => unC r fun m r' => rdS σ s m fun m' => unR σ q r' fun l => K (m' :: l)
def unX (l : Bxs) (K : Option Ob → Bxs → Option α) : Option α := match l with
  | m :: r => K m r
  | [] => bot α
def unXN (l : Bxs) (o : Option α) : Option α := match l with
  | [] => o
  | _ :: _ => bot α
def rdO (σ : Ren) (s : OS) (o : Option Ob) (K : Option Ob → Option α) : Option α := match s with
  | .gone => K none
  | .box l => dBx o fun cs => rdC σ l cs fun ds => K (some (.box ds))
  | .row dp sz => dRw dp sz o fun es => K (some (.row dp sz es []))
  | .mp dp => dMp dp o fun m => K (some (.map dp m []))
  | .bld => dBd o fun s => K (some (.bld s))
/-- Objects behind a call. -/
def unO (σ : Ren) : List OS → Bxs → (Bxs → Option α) → Option α
  | [], B, K => unXN B (K [])
  | s :: q, B, K => unX B fun o B' => rdO σ s o fun o' => unO σ q B' fun l => K (o' :: l)

def callE (o : Out) (K : Res → Bxs → Option α) : Option α := match o with
  | some (r, B) => K r B
  | none => none

/-- Objects, lent: read as what they hold. -/
def lentL (B : Bxs) : List Nat → List MV → Option (List MV)
  | [], ms => some ms
  | k :: r, ms => match B[k]? with
    | some (some o) => (match content o with
      | some m => lentL B r (subL k m ms)
      | none => none)
    | _ => none

def putN : List Nat → Bxs → Bxs → Bxs
  | k :: r, o :: q, B => putN r q (B.set k o)
  | [], q, B => B ++ q
  | _ :: _, [], B => B

def selF : List Bool → List Operand → List Operand
  | true :: q, _ :: r => selF q r
  | false :: q, x :: r => x :: selF q r
  | [], l => l
  | _, [] => []

def sig (l : List Nat) (n m : Nat) : Ren := numB 0 l ++ numB l.length ((List.range n).map (· + m))

/-- Functions that are handed over lead to no objects. -/
def fnG : List MV → Option α → Option α
  | [], o => o
  | m :: r, o => (match m with
    | .fn _ cs => npG cs (fnG r o)
    | _ => fnG r o)
def idsK : List MV → List Nat
  | [] => []
  | m :: r => (match m with
    | .fn _ _ => idsK r
    | m => idsM m ++ idsK r)
def renK (π : Ren) : List MV → List MV
  | [] => []
  | m :: r => (match m with
    | .fn f cs => .fn f cs
    | m => ren π m) :: renK π r

/-- Functions: a variant (0: as it is), its number, its arguments, the objects. -/
abbrev Cl := Nat → FuncId → List MV → Bxs → Out
def objF (E : Env) (cl : Cl) (st : St) (dst : Option Tmp) (g : FuncId) (fp : FnP) (os : List OS) (I : List Nat) (ms : List MV) (K : St → Option α) : Option α :=
  sB (noDup I && Nat.ble I.length os.length) (sO (objsOf st.B I) fun ob =>
    fnG ms (callE (cl 0 g (renK (numI 0 I) ms) (ob.map fun o => some (renO (numI 0 I) o))) fun r B' =>
      unO (sig I (os.length - I.length) st.B.length) os B' fun B2 => unR (sig I (os.length - I.length) st.B.length) fp.sg r fun r2 =>
        K (putO ⟨st.v, putN I B2 st.B⟩ dst (resV r2))))

/-- A call of a variant: functions that are handed over may lead to objects, too. -/
def objS (E : Env) (cl : Cl) (v : Nat) (st : St) (dst : Option Tmp) (g : FuncId) (fp : FnP) (os : List OS) (I : List Nat) (ms : List MV) (K : St → Option α) : Option α :=
  sB (noDup I && Nat.ble I.length os.length) (sO (objsOf st.B I) fun ob =>
    callE (cl v g (renL (numI 0 I) ms) (ob.map fun o => some (renO (numI 0 I) o))) fun r B' =>
      unO (sig I (os.length - I.length) st.B.length) os B' fun B2 => unR (sig I (os.length - I.length) st.B.length) fp.sg r fun r2 =>
        K (putO ⟨st.v, putN I B2 st.B⟩ dst (resV r2)))
def spOf (sp : List (Nat × Nat)) : Option Tmp → Option Nat
  | some d => lkN sp d
  | none => none

/-- What a call hands back, by its type. -/
def shTy (ti : TI) : Sh := match aggKd ti.kd with
  | true => .agg (ti.zero.map bsOf)
  | false => (match ti.kd with
    | .int k => .c (.int k)
    | .bool => .c .bool
    | .str => .c .str
    | .slice _ => .c .list
    | .map _ _ => .c .map
    | _ => .c .any)
/-- What the caller knows of a callee: by the table, or (a function that comes from outside) by its type. -/
def fpOf (E : Env) (nk : List Nat) (f : Operand) (ty : TypeId) (g : FuncId) : Option FnP := match f with
  | .tmp t => (match memN nk t with
    | true => (match lkN E.ty ty with
      | some ti => some ⟨.leaf, [], [], [], [shTy ti], [], none, []⟩
      | none => none)
    | false => lkN E.fn g)
  | _ => lkN E.fn g

def callF (E : Env) (cl : Cl) (nk : List Nat) (sp : List (Nat × Nat)) (st : St) (dst : Option Tmp) (ty : TypeId) (f : Operand) (xs : List Operand) (K : St → Option α) : Option α :=
  match fnOf st f with
  | none => none
  | some (g, cs) => match spOf sp dst with
   | some v => (match lkN E.sp v with
     | some fp => (match fp.os with
       | some os => sO (st.shrs (selF fp.pm xs)) fun st' => sO (shvs st' xs) fun ms => sO (fnOf st' f) fun gc => objS E cl v st' dst g fp os (reach 200 st'.B [] (idsL (ms ++ gc.2))) (ms ++ gc.2) K
       | none => none)
     | none => none)
   | none => match fpOf E nk f ty g with
    | none => none
    | some fp => match fp.os with
      | none => (match allFlat fp.sg with
        | true => sO (shvs st xs) fun ms => sO (lentL st.B (refsL ms) ms) fun ms' => npG (ms' ++ cs) (callE (cl 0 g (ms' ++ cs) []) fun r B' => unXN B' (unR [] fp.sg r fun r' => K (putO st dst (resV r'))))
        | false => sO (st.shrs xs) fun st' => sO (shvs st' xs) fun ms => sO (fnOf st' f) fun gc => npG (ms ++ gc.2) (callE (cl 0 g (ms ++ gc.2) []) fun r B' => unXN B' (unR [] fp.sg r fun r' => K (putO st' dst (resV r')))))
      | some os => sO (st.shrs (selF fp.pm xs)) fun st' => sO (shvs st' xs) fun ms => sO (fnOf st' f) fun gc => objF E cl st' dst g fp os (reach 200 st'.B [] (idsK (ms ++ gc.2))) (ms ++ gc.2) K

/-- The table's functions keep their contracts. -/
def Sound (P : Program) (cl : Cl) : Prop := ∀ v g args B r B', cl v g args B = some (r, B') → SpecB P g args B r B'

def dstF (d : Option Tmp) (nt : Nat) (o : Option α) : Option α := match d with
  | some d => sB (Nat.blt d nt) o
  | none => o

/-- One operation. -/
def opF (E : Env) (cl : Cl) (nt : Nat) (fp : FnP) (o : Oper) (st : St) (K : St → Option α) : Option α := dstF o.dst nt (
  match o.op with
  | .assign x => (match o.dst with
    | some d => asgF E fp.hd st o.type d x K
    | none => none)
  | .call c => (match c.callee with
    | .value f => callF E cl fp.nk fp.sp st o.dst o.type f c.args.toList K
    | .builtin .append => (match o.dst with
      | some d => appF E fp.hd st d c K
      | none => none)
    | .builtin .copy => cpyF E st o.dst c K
    | _ => pureF E st (.call c) (fun m => K (putO st o.dst m)))
  | .makeSlice T l c => (match o.dst with
    | some d => mkF E fp.hd st d T l c K
    | none => none)
  | .buildSlice T len parts => (match o.dst with
    | some d => bsF E st d T len parts.toList K
    | none => none)
  | .build T parts => bldF E fp.hd st o.dst T parts.toList K
  | .box T x => boxF (match o.dst with | some d => memN fp.fz d | none => false) st o.dst x K
  | .alloc T => (match kdE E T with
    | .arr _ _ => araF E st o.dst T K
    | _ => aloF E fp.hd (match o.dst with | some d => memN fp.fz d | none => false) st o.dst T K)
  | .store T ad x => (match o.dst with
    | none => stoF E st T ad x K
    | some _ => none)
  | .makeMap T r => (match o.dst with
    | some d => mmkF E fp.hd st d T r K
    | none => none)
  | .mapUpdate T m k v => (match o.dst with
    | none => (match deepM st m with
      | true => mudF E st T m k v K
      | false => mupF E st T m k v K)
    | some _ => none)
  | .convert s T y => (match kdE E T with
    | .slice e => strF E st o.dst s e y K
    | .str => (match kdE E s with
      | .slice e => bstF E st o.dst e y K
      | _ => pureF E st (.convert s T y) (fun m => K (putO st o.dst m)))
    | _ => pureF E st (.convert s T y) (fun m => K (putO st o.dst m)))
  | .makeInterface T y => mifF E st o.dst T y K
  | .indexAddr T y i => (match kdE E T with
    | .arr N e => arxF E st o.dst N e y i K
    | _ => pureF E st (.indexAddr T y i) (fun m => K (putO st o.dst m)))
  | .slice T y lo hi none => (match kdE E T with
    | .arr N e => (match hi with
      | none => arsF E st o.dst N e y lo K
      | some _ => none)
    | _ => (match o.dst with
      | some d => (match memN fp.hd d with
        | true => trcF E st d T y lo hi K
        | false => pureF E st (.slice T y lo hi none) (fun m => K (putO st o.dst m)))
      | none => pureF E st (.slice T y lo hi none) (fun m => K (putO st o.dst m))))
  | .load T ad => (match o.dst with
    | some d => (match memN fp.hd d with
      | true => lfoF E st d T ad K
      | false => pureF E st (.load T ad) (fun m => K (putO st o.dst m)))
    | none => pureF E st (.load T ad) (fun m => K (putO st o.dst m)))
  | .lookup T m k ok => (match o.dst with
    | some d => (match memN fp.hd d with
      | true => lkdF E st d T m k ok K
      | false => pureF E st (.lookup T m k ok) (fun m => K (putO st o.dst m)))
    | none => pureF E st (.lookup T m k ok) (fun m => K (putO st o.dst m)))
  | op => pureF E st op (fun m => K (putO st o.dst m)))
end

/-! ### They are right -/
section
variable {α : Type} {x : α}

theorem unX_some {l : Bxs} {K : Option Ob → Bxs → Option α} (h : unX l K = some x) : ∃ m r, l = m :: r ∧ K m r = some x := by
  cases l with
  | nil => exact absurd h (by simp [unX])
  | cons m r => exact ⟨m, r, rfl, h⟩
theorem unXN_some {l : Bxs} {o : Option α} (h : unXN l o = some x) : l = [] ∧ o = some x := by
  cases l with
  | nil => exact ⟨rfl, h⟩
  | cons m r => exact absurd h (by simp [unXN])
theorem callE_some {o : Out} {K : Res → Bxs → Option α} (h : callE o K = some x) : ∃ r B, o = some (r, B) ∧ K r B = some x := by
  unfold callE at h
  split at h
  · rename_i r B; exact ⟨r, B, rfl, h⟩
  · exact absurd h (by simp)

mutual
theorem np_ren (σ : Ren) : ∀ (m : MV), np m = true → ren σ m = m
  | .agg cs, h => by simp only [ren, npL_ren σ cs h]
  | .tup cs, h => by simp only [ren, npL_ren σ cs h]
  | .fn f cs, h => by simp only [ren, npL_ren σ cs h]
  | .ifc t c, h => by simp only [ren, np_ren σ c h]
  | .ptr _ _, h => by simp [np] at h
  | .ref _, h => by simp [np] at h
  | .eref _ _ _ _, h => by simp [np] at h
  | .hold _ _ _, h => by simp [np] at h
  | .gone, h => by simp [np] at h
  | .bool _, _ => by simp only [ren]
  | .int _ _, _ => by simp only [ren]
  | .str _, _ => by simp only [ren]
  | .list _, _ => by simp only [ren]
  | .nil, _ => by simp only [ren]
  | .nilfn, _ => by simp only [ren]
  | .cptr _ _, _ => by simp only [ren]
  | .nilptr, _ => by simp only [ren]
  | .map _, _ => by simp only [ren]
  | .nilifc, _ => by simp only [ren]
  | .seq _ _, _ => by simp only [ren]
theorem npL_ren (σ : Ren) : ∀ (l : List MV), npL l = true → renL σ l = l
  | [], _ => by simp only [renL]
  | m :: r, h => by
    simp only [npL, Bool.and_eq_true] at h
    simp only [renL, np_ren σ m h.1, npL_ren σ r h.2]
end

theorem flatL_get : ∀ {cs : List MV}, flatL cs = true → ∀ (i : Nat) (c : MV), cs[i]? = some c → flatM c = true
  | [], _, i, c, hi => by simp at hi
  | m :: r, h, i, c, hi => by
    simp only [flatL, Bool.and_eq_true] at h
    cases i with
    | zero => simp at hi; subst hi; exact h.1
    | succ i => exact flatL_get h.2 i c (by simpa using hi)
theorem Rep.flat {γ γ' : List Value} {ω ω' : Own} {w w' : World} {m : MV} {v : Value} (h : Rep γ ω w m v) (hf : flatM m = true) : Rep γ' ω' w' m v := by
  induction h with
  | bool b => exact .bool b
  | int k n => exact .int k n
  | str s => exact .str s
  | agg cs vs hl _ h1 ih => exact .agg cs vs hl (fun i c u hc hu => ih i c u hc hu (flatL_get (by simpa [flatM] using hf) i c hc)) h1
  | tup cs vs hl _ ih => exact .tup cs vs hl (fun i c u hc hu => ih i c u hc hu (flatL_get (by simpa [flatM] using hf) i c hc))
  | _ => simp [flatM] at hf

theorem rdB_some {σ : Ren} {b : Bs} {m : MV} {K : MV → Option α} (h : rdB σ b m K = some x) : ∃ m', Ev (ren σ m) m' ∧ (flatB b = true → flatM m' = true) ∧ K m' = some x := by
  cases b with
  | any =>
    obtain ⟨h1, h2⟩ := npG_some (show npG [m] (K m) = some x from h)
    simp only [npL, Bool.and_true] at h1
    exact ⟨m, by rw [np_ren σ m h1]; exact .refl m, by simp [flatB], h2⟩
  | ref k =>
    change dRf k m (K (ren σ (.ref k))) = some x at h
    unfold dRf at h
    split at h
    · rename_i k'
      obtain ⟨h1, h2⟩ := sB_some h
      rw [beq_nat h1]
      exact ⟨_, .refl _, by simp [flatB], h2⟩
    · exact absurd h (by simp)
  | ptr k o =>
    change dPt k o m (K (ren σ (.ptr k o))) = some x at h
    unfold dPt at h
    split at h
    · rename_i k' o'
      obtain ⟨h1, h2⟩ := sB_some h
      rw [Bool.and_eq_true] at h1
      rw [beq_nat h1.1, beq_nat h1.2]
      exact ⟨_, .refl _, by simp [flatB], h2⟩
    · exact absurd h (by simp)
  | int k => replace h := dI_some (show dI k m (fun n => K (.int k n)) = some x from h); obtain ⟨n, rfl, h⟩ := h; exact ⟨_, by simp only [ren]; exact .refl _, fun _ => rfl, h⟩
  | bool => replace h := dB_some (show dB m (fun n => K (.bool n)) = some x from h); obtain ⟨n, rfl, h⟩ := h; exact ⟨_, by simp only [ren]; exact .refl _, fun _ => rfl, h⟩
  | str => replace h := dS_some (show dS m (fun n => K (.str n)) = some x from h); obtain ⟨n, rfl, h⟩ := h; exact ⟨_, by simp only [ren]; exact .refl _, fun _ => rfl, h⟩
  | list =>
    replace h := dL_some (show dL m (fun n => K (.list n)) = some x from h)
    obtain ⟨n, hm, h⟩ := h
    rcases hm with rfl | ⟨rfl, rfl⟩
    · exact ⟨_, by simp only [ren]; exact .refl _, by simp [flatB], h⟩
    · exact ⟨_, by simp only [ren]; exact .nil, by simp [flatB], h⟩
  | map => replace h := dM_some (show dM m (fun n => K (.map n)) = some x from h); obtain ⟨n, rfl, h⟩ := h; exact ⟨_, by simp only [ren]; exact .refl _, by simp [flatB], h⟩
  | sq =>
    change dSq m (fun f es => K (.seq f (.map es))) = some x at h
    unfold dSq at h
    split at h
    · exact ⟨_, by simp only [ren]; exact .refl _, by simp [flatB], h⟩
    · exact absurd h (by simp)

theorem rdC_some {σ : Ren} : ∀ {l : List Bs} {cs : List MV} {K : List MV → Option α}, rdC σ l cs K = some x → ∃ ds, cs.length = ds.length ∧ (∀ (i : Nat) (c d : MV), cs[i]? = some c → ds[i]? = some d → Ev (ren σ c) d) ∧ (flatBs l = true → flatL ds = true) ∧ K ds = some x
  | [], cs, K, h => by
    replace h := unN_some h
    obtain ⟨rfl, h⟩ := h
    exact ⟨[], rfl, by simp, fun _ => rfl, h⟩
  | b :: r, cs, K, h => by
    replace h := unC_some h
    obtain ⟨m, q, rfl, h⟩ := h
    replace h := rdB_some h
    obtain ⟨m', e1, e2, h⟩ := h
    replace h := rdC_some h
    obtain ⟨ds, g1, g2, g3, h⟩ := h
    refine ⟨m' :: ds, by simp [g1], fun i c d hc hd => ?_, fun hf => ?_, h⟩
    · cases i with
      | zero => simp at hc hd; subst hc; subst hd; exact e1
      | succ i => exact g2 i c d (by simpa using hc) (by simpa using hd)
    · simp only [flatBs, Bool.and_eq_true] at hf
      simp only [flatL, Bool.and_eq_true]
      exact ⟨e2 hf.1, g3 hf.2⟩

theorem rdS_some {σ : Ren} {s : Sh} {m : MV} {K : MV → Option α} (h : rdS σ s m K = some x) : ∃ m', Ev (ren σ m) m' ∧ (flatS s = true → flatM m' = true) ∧ K m' = some x := by
  cases s with
  | c b => exact rdB_some h
  | agg l =>
    replace h := dA_some (show dA m _ = some x from h)
    obtain ⟨cs, rfl, h⟩ := h
    replace h := rdC_some h
    obtain ⟨ds, g1, g2, g3, h⟩ := h
    refine ⟨.agg ds, ?_, g3, h⟩
    simp only [ren]
    refine .agg _ _ (by rw [renL_len]; exact g1) (fun i c d hc hd => ?_)
    rw [renL_get] at hc
    cases hi : cs[i]? with
    | none => rw [hi] at hc; simp at hc
    | some c0 => rw [hi] at hc; simp at hc; subst hc; exact g2 i c0 d hi hd

theorem unR_some {σ : Ren} : ∀ {l : List Sh} {r : Res} {K : Res → Option α}, unR σ l r K = some x → ∃ r', r.length = r'.length ∧ (∀ (i : Nat) (c d : MV), r[i]? = some c → r'[i]? = some d → Ev (ren σ c) d) ∧ (allFlat l = true → flatL r' = true) ∧ K r' = some x
  | [], r, K, h => by
    replace h := unN_some h
    obtain ⟨rfl, h⟩ := h
    exact ⟨[], rfl, by simp, fun _ => rfl, h⟩
  | b :: r, cs, K, h => by
    replace h := unC_some h
    obtain ⟨m, q, rfl, h⟩ := h
    replace h := rdS_some h
    obtain ⟨m', e1, e2, h⟩ := h
    replace h := unR_some h
    obtain ⟨ds, g1, g2, g3, h⟩ := h
    refine ⟨m' :: ds, by simp [g1], fun i c d hc hd => ?_, fun hf => ?_, h⟩
    · cases i with
      | zero => simp at hc hd; subst hc; subst hd; exact e1
      | succ i => exact g2 i c d (by simpa using hc) (by simpa using hd)
    · simp only [allFlat, Bool.and_eq_true] at hf
      simp only [flatL, Bool.and_eq_true]
      exact ⟨e2 hf.1, g3 hf.2⟩

theorem ren_resV (σ : Ren) (r : Res) : ren σ (resV r) = resV (renL σ r) := by
  match r with
  | [] => simp only [resV, ren, renL]
  | [m] => simp only [resV, renL]
  | _ :: _ :: _ => simp only [resV, ren, renL]

theorem resV_ev {σ : Ren} {r r' : Res} (hl : r.length = r'.length) (h : ∀ (i : Nat) (c d : MV), r[i]? = some c → r'[i]? = some d → Ev (ren σ c) d) : Ev (resV (renL σ r)) (resV r') := by
  have tup : Ev (.tup (renL σ r)) (.tup r') := by
    refine .tup _ _ (by rw [renL_len]; exact hl) (fun i c d hc hd => ?_)
    rw [renL_get] at hc
    cases hi : r[i]? with
    | none => rw [hi] at hc; simp at hc
    | some c0 => rw [hi] at hc; simp at hc; subst hc; exact h i c0 d hi hd
  match r, r', hl with
  | [], [], _ => exact tup
  | [m], [m'], _ => simp only [renL, resV]; exact h 0 m m' rfl rfl
  | _ :: _ :: _, _ :: _ :: _, _ => exact tup

theorem flat_resV {r : Res} (h : flatL r = true) : flatM (resV r) = true := by
  match r with
  | [] => rfl
  | [m] => simpa [flatL, resV] using h
  | _ :: _ :: _ => exact h

/-- Objects that say the same. -/
inductive EvO : Ob → Ob → Prop where
  | refl (o : Ob) : EvO o o
  | box (cs ds : List MV) (hl : cs.length = ds.length) (h : ∀ (i : Nat) (c d : MV), cs[i]? = some c → ds[i]? = some d → Ev c d) : EvO (.box cs) (.box ds)
theorem EvO.obR {γ : List Value} {ω : Own} {w : World} {k : Nat} {o o' : Ob} {hd : Value} (e : EvO o o') (h : ObR γ ω w k o hd) : ObR γ ω w k o' hd := by
  cases e with
  | refl => exact h
  | box cs ds hl he =>
    obtain ⟨blk, cur, e, g1, g2, g3, g4, g5, g6⟩ := h
    refine ⟨blk, cur, e, g1, g2, g3, g4, by rw [← hl]; exact g5, fun i c hi => ?_⟩
    have hlt : i < cs.length := by rw [hl]; exact (List.getElem?_eq_some_iff.1 hi).1
    obtain ⟨u, r1, r2, r3⟩ := g6 i _ (List.getElem?_eq_getElem hlt)
    exact ⟨u, r1, r2, (he i _ c (List.getElem?_eq_getElem hlt) hi).rep r3⟩
/-- The same objects, fewer, or told otherwise. -/
def EvB (B B2 : Bxs) : Prop := B2.length = B.length ∧ ∀ (j : Nat) (o2 : Ob), B2[j]? = some (some o2) → ∃ o1, B[j]? = some (some o1) ∧ EvO o1 o2
theorem EvB.refl (B : Bxs) : EvB B B := ⟨rfl, fun j o h => ⟨o, h, .refl o⟩⟩
theorem EvB.set {B B2 : Bxs} (h : EvB B B2) {o o2 : Option Ob} (ho : ∀ y, o2 = some y → ∃ y1, o = some y1 ∧ EvO y1 y) (k : Nat) : EvB (B.set k o) (B2.set k o2) := by
  refine ⟨by simp [h.1], fun j y hj => ?_⟩
  rw [List.getElem?_set] at hj ⊢
  by_cases e : k = j
  · subst e
    rw [if_pos rfl] at hj ⊢
    split at hj
    · rename_i hlt
      injection hj with hj
      obtain ⟨y1, q1, q2⟩ := ho y hj
      rw [if_pos (by rw [← h.1]; exact hlt)]
      exact ⟨y1, by rw [q1], q2⟩
    · simp at hj
  · rw [if_neg e] at hj ⊢; exact h.2 j y hj
theorem putB_putN (σ : Ren) : ∀ (l : List Nat) (q B : Bxs), putB σ l q B = putN l (q.map fun o => o.map (renO σ)) B
  | [], q, B => by simp [putB, putN]
  | k :: r, [], B => by simp [putB, putN]
  | k :: r, o :: q, B => by simp only [putB, List.map_cons, putN]; exact putB_putN σ r q _
theorem putN_ev : ∀ (l : List Nat) {q q2 B B2 : Bxs}, EvB q q2 → EvB B B2 → EvB (putN l q B) (putN l q2 B2)
  | [], q, q2, B, B2, h, hB => by
    simp only [putN]
    refine ⟨by simp [h.1, hB.1], fun j o hj => ?_⟩
    rcases Nat.lt_or_ge j B2.length with hlt | hge
    · rw [List.getElem?_append_left hlt] at hj
      rw [List.getElem?_append_left (by rw [← hB.1]; exact hlt)]
      exact hB.2 j o hj
    · rw [List.getElem?_append_right hge] at hj
      rw [List.getElem?_append_right (by rw [← hB.1]; exact hge)]
      rw [← hB.1]; exact h.2 _ o hj
  | k :: r, [], q2, B, B2, h, hB => by
    have : q2 = [] := List.eq_nil_of_length_eq_zero h.1
    subst this; exact hB
  | k :: r, o :: q, [], B, B2, h, hB => by have := h.1; simp at this
  | k :: r, o :: q, o2 :: q2, B, B2, h, hB => by
    simp only [putN]
    refine putN_ev r ⟨by have := h.1; simpa using this, fun j y hj => by simpa using h.2 (j + 1) y (by simpa using hj)⟩ (hB.set (fun y hy => ?_) k)
    obtain ⟨y1, q1, q2⟩ := h.2 0 y (by simp [hy])
    exact ⟨y1, by simpa using q1, q2⟩

theorem Rel.evB {γ : List Value} {ω : Own} {w : World} {nt : Nat} {st : St} {a : Act} (h : Rel γ ω w nt st a) {B2 : Bxs} (hB : EvB st.B B2) : Rel γ ω w nt ⟨st.v, B2⟩ a := by
  refine ⟨h.size, h.defers, h.lt, h.gl, by rw [h.len]; exact hB.1.symm, h.slots, fun j o hj => ?_⟩
  obtain ⟨o1, q1, q2⟩ := hB.2 j o hj
  obtain ⟨hd, r1, r2⟩ := h.objs j o1 q1
  exact ⟨hd, r1, q2.obR r2⟩
theorem Rel.evP {γ : List Value} {ω : Own} {w : World} {nt : Nat} {v : List (Nat × MV)} {B B2 : Bxs} {d : Option Tmp} {m m' : MV} {a : Act} (h : Rel γ ω w nt (Go.Pv.putO ⟨v, B⟩ d m) a) (hB : EvB B B2) (e : Ev m m') : Rel γ ω w nt (Go.Pv.putO ⟨v, B2⟩ d m') a := by
  cases d with
  | none => exact h.evB hB
  | some t =>
    have h1 : Rel γ ω w nt ⟨pt v t m, B2⟩ a := h.evB hB
    refine ⟨h1.size, h1.defers, h1.lt, h1.gl, h1.len, fun s => ?_, h1.objs⟩
    have h2 := h1.slots s
    show Rep γ ω w (lk (pt v t m') s) _
    rw [lk_pt] at h2 ⊢
    split
    · rename_i e1; rw [if_pos e1] at h2; exact e.rep h2
    · rename_i e1; rw [if_neg e1] at h2; exact h2

theorem rdO_some {σ : Ren} {s : OS} {o : Option Ob} {K : Option Ob → Option α} (h : rdO σ s o K = some x) : ∃ o2, (∀ y, o2 = some y → ∃ y1, o = some y1 ∧ EvO (renO σ y1) y) ∧ K o2 = some x := by
  cases s with
  | gone => exact ⟨none, by simp, h⟩
  | box l =>
    change (dBx o fun cs => rdC σ l cs fun ds => K (some (.box ds))) = some x at h
    unfold dBx at h
    split at h
    · rename_i cs
      replace h := rdC_some h
      obtain ⟨ds, g1, g2, _, h⟩ := h
      refine ⟨_, fun y hy => ⟨_, rfl, ?_⟩, h⟩
      injection hy with hy; subst hy
      refine .box _ _ (by rw [renL_len]; exact g1) (fun i c d hc hd => ?_)
      rw [renL_get] at hc
      cases hi : cs[i]? with
      | none => rw [hi] at hc; simp at hc
      | some c0 => rw [hi] at hc; simp at hc; subst hc; exact g2 i c0 d hi hd
    · exact absurd h (by simp)
  | row dp sz =>
    change (dRw dp sz o fun es => K (some (.row dp sz es []))) = some x at h
    unfold dRw at h
    split at h
    · rename_i dp' sz' es
      replace h := sB_some h
      obtain ⟨h1, h⟩ := h
      rw [Bool.and_eq_true] at h1
      have e1 : dp = dp' := by simpa using h1.1
      have e2 := beq_nat h1.2
      subst e1; subst e2
      exact ⟨_, fun y hy => ⟨_, rfl, by injection hy with hy; subst hy; exact .refl _⟩, h⟩
    · exact absurd h (by simp)
  | bld =>
    change (dBd o fun s => K (some (.bld s))) = some x at h
    unfold dBd at h
    split at h
    · exact ⟨_, fun y hy => ⟨_, rfl, by injection hy with hy; subst hy; exact .refl _⟩, h⟩
    · exact absurd h (by simp)
  | mp dp =>
    change (dMp dp o fun m => K (some (.map dp m []))) = some x at h
    unfold dMp at h
    split at h
    · rename_i dp' m
      replace h := sB_some h
      obtain ⟨h1, h⟩ := h
      have e1 : dp = dp' := by simpa using h1
      subst e1
      exact ⟨_, fun y hy => ⟨_, rfl, by injection hy with hy; subst hy; exact .refl _⟩, h⟩
    · exact absurd h (by simp)

theorem unO_some {σ : Ren} : ∀ {l : List OS} {B : Bxs} {K : Bxs → Option α}, unO σ l B K = some x → ∃ B2, l.length = B.length ∧ EvB (B.map fun o => o.map (renO σ)) B2 ∧ K B2 = some x
  | [], B, K, h => by
    replace h := unXN_some h
    obtain ⟨rfl, h⟩ := h
    exact ⟨[], rfl, .refl _, h⟩
  | s :: q, B, K, h => by
    replace h := unX_some h
    obtain ⟨o, r, rfl, h⟩ := h
    replace h := rdO_some h
    obtain ⟨o2, g1, h⟩ := h
    replace h := unO_some h
    obtain ⟨B2, g2, g3, h⟩ := h
    refine ⟨o2 :: B2, by simp [g2], ⟨by have := g3.1; simpa using this, fun j y hj => ?_⟩, h⟩
    cases j with
    | zero =>
      simp at hj
      obtain ⟨y1, q1, q2⟩ := g1 y hj
      exact ⟨_, by simp [q1], q2⟩
    | succ j => simpa using g3.2 j y (by simpa using hj)

theorem npL_app {l r : List MV} (h : npL (l ++ r) = true) : npL l = true ∧ npL r = true := by
  rw [npL_iff] at h
  exact ⟨npL_iff.2 fun c hc => h c (by simp [hc]), npL_iff.2 fun c hc => h c (by simp [hc])⟩

end

section
variable {α : Type} {x : α} {P : Program} {E : Env} {cl : Cl} {γ γ' : List Value} {ω ω' : Own} {w w' : World} {nt : Nat} {st : St} {a : Act} {K : St → Option α}

/-- What a call comes to. -/
def Goes (P : Program) (nt : Nat) (γ : List Value) (ω : Own) (w : World) (a : Act) (g : FuncId) (us : Array Value) (d : Option Tmp) (K : St → Option α) (x : α) : Prop :=
  (∀ (avs : Array Value) (w : World), (callFunc g avs).run P w = .ok (.enter g avs) w) ∧ Calls P g us w fun e w' => ∃ v γ' ω' st', e = .returned v ∧ Chg NotOuter γ ω w γ' ω' w' ∧ Rel γ' ω' w' nt st' (a.put d v) ∧ K st' = some x

theorem fnG_some {l : List MV} {o : Option α} (h : fnG l o = some x) : (∀ π, renK π l = renL π l) ∧ o = some x := by
  induction l with
  | nil => exact ⟨fun _ => rfl, h⟩
  | cons m r ih =>
    unfold fnG at h
    split at h
    · rename_i f cs
      replace h := npG_some h
      obtain ⟨h1, h⟩ := h
      obtain ⟨g1, g2⟩ := ih h
      exact ⟨fun π => by simp only [renK, renL, g1 π, ren, npL_ren π cs h1], g2⟩
    · rename_i hno
      obtain ⟨g1, g2⟩ := ih h
      refine ⟨fun π => ?_, g2⟩
      simp only [renK, renL, g1 π]

theorem obj_ok (hcl : Sound P cl) (h : Rel γ ω w nt st a) {g : FuncId} {fp : FnP} {os : List OS} {I : List Nat} {ms : List MV} {d : Option Tmp} (hd : ∀ t, d = some t → t < nt) (hx : objF E cl st d g fp os I ms K = some x) (us : List Value) (hul : us.length = ms.length)
    (hargs : ∀ (i : Nat) (c : MV) (v : Value), ms[i]? = some c → us[i]? = some v → Rep γ ω w c v) : Goes P nt γ ω w a g us.toArray d K x := by
  unfold objF at hx
  replace hx := sB_some hx
  obtain ⟨h1, hx⟩ := hx
  rw [Bool.and_eq_true] at h1
  replace hx := sO_some hx
  obtain ⟨ob, hob, hx⟩ := hx
  replace hx := fnG_some hx
  obtain ⟨hrk, hx⟩ := hx
  rw [hrk] at hx
  replace hx := callE_some hx
  obtain ⟨r, B', hc, hx⟩ := hx
  replace hx := unO_some hx
  obtain ⟨B2, hl, hE, hx⟩ := hx
  replace hx := unR_some hx
  obtain ⟨r2, hrl, hre, _, hx⟩ := hx
  have hs := hcl _ _ _ _ _ _ hc
  refine ⟨hs.1, ?_⟩
  have hble := ble_nat h1.2
  refine (call_frame h (noDup_iff h1.1) hob hs (by omega) us hul d hd hargs).mono ?_
  rintro e w' ⟨v, γ', ω', he, hcg, hR⟩
  refine ⟨v, γ', ω', _, he, hcg, ?_, hx⟩
  unfold sig at hE hre
  rw [hl] at hE hre
  refine hR.evP ?_ (resV_ev hrl hre)
  rw [putB_putN]
  exact putN_ev I hE (.refl _)

theorem objS_ok (hcl : Sound P cl) (h : Rel γ ω w nt st a) {v : Nat} {g : FuncId} {fp : FnP} {os : List OS} {I : List Nat} {ms : List MV} {d : Option Tmp} (hd : ∀ t, d = some t → t < nt) (hx : objS E cl v st d g fp os I ms K = some x) (us : List Value) (hul : us.length = ms.length)
    (hargs : ∀ (i : Nat) (c : MV) (v : Value), ms[i]? = some c → us[i]? = some v → Rep γ ω w c v) : Goes P nt γ ω w a g us.toArray d K x := by
  unfold objS at hx
  replace hx := sB_some hx
  obtain ⟨h1, hx⟩ := hx
  rw [Bool.and_eq_true] at h1
  replace hx := sO_some hx
  obtain ⟨ob, hob, hx⟩ := hx
  replace hx := callE_some hx
  obtain ⟨r, B', hc, hx⟩ := hx
  replace hx := unO_some hx
  obtain ⟨B2, hl, hE, hx⟩ := hx
  replace hx := unR_some hx
  obtain ⟨r2, hrl, hre, _, hx⟩ := hx
  have hs := hcl _ _ _ _ _ _ hc
  refine ⟨hs.1, ?_⟩
  have hble := ble_nat h1.2
  refine (call_frame h (noDup_iff h1.1) hob hs (by omega) us hul d hd hargs).mono ?_
  rintro e w' ⟨v, γ', ω', he, hcg, hR⟩
  refine ⟨v, γ', ω', _, he, hcg, ?_, hx⟩
  unfold sig at hE hre
  rw [hl] at hE hre
  refine hR.evP ?_ (resV_ev hrl hre)
  rw [putB_putN]
  exact putN_ev I hE (.refl _)

theorem lent_ok {B : Bxs} {ω1 : Own} : ∀ {l : List Nat} {ms ms' : List MV}, (∀ (k : Nat) (o : Ob) (m : MV), k ∈ l → B[k]? = some (some o) → content o = some m → ∀ v, γ[k]? = some v → Rep γ ω1 w m v) → lentL B l ms = some ms' → ms'.length = ms.length ∧ ∀ (i : Nat) (c' : MV) (v : Value), ms'[i]? = some c' → (∀ c, ms[i]? = some c → Rep γ ω1 w c v) → Rep γ ω1 w c' v
  | [], ms, ms', hB, h => by
    simp [lentL] at h; subst h
    exact ⟨rfl, fun i c v hc hv => hv c hc⟩
  | k :: r, ms, ms', hB, h => by
    unfold lentL at h
    split at h
    · rename_i o hk
      split at h
      · rename_i m hm
        obtain ⟨g1, g2⟩ := lent_ok (fun k o m hk => hB k o m (List.mem_cons_of_mem _ hk)) h
        refine ⟨by rw [g1, subL_len], fun i c' v hc' hv => g2 i c' v hc' (fun c hc => ?_)⟩
        rw [subL_get] at hc
        cases hi : ms[i]? with
        | none => rw [hi] at hc; simp at hc
        | some c0 => rw [hi] at hc; simp at hc; subst hc; exact (hv c0 hi).sub (hB k o m (by simp) hk hm)
      · exact absurd h (by simp)
    · exact absurd h (by simp)

theorem lentL_mem {B : Bxs} : ∀ {l : List Nat} {ms ms' : List MV}, lentL B l ms = some ms' → ∀ k ∈ l, ∃ o m, B[k]? = some (some o) ∧ content o = some m
  | [], ms, ms', h, k, hk => by simp at hk
  | k0 :: r, ms, ms', h, k, hk => by
    unfold lentL at h
    split at h
    · rename_i o ho
      split at h
      · rename_i m hm
        rcases List.mem_cons.1 hk with rfl | hk
        · exact ⟨o, m, ho, hm⟩
        · exact lentL_mem h k hk
      · exact absurd h (by simp)
    · exact absurd h (by simp)


/-- A call that is lent what it reads. -/
theorem lend_ok (hcl : Sound P cl) (h : Rel γ ω w nt st a) {g : FuncId} {sg : List Sh} (hfl : allFlat sg = true) {ls : List Nat} {ms ms' cs : List MV} (hm : lentL st.B ls ms = some ms') (hnp : npL (ms' ++ cs) = true) {r : Res} {B' : Bxs} (hc : cl 0 g (ms' ++ cs) [] = some (r, B')) {d : Option Tmp} (hd : ∀ t, d = some t → t < nt) (hx : unXN B' (unR [] sg r fun r' => K (putO st d (resV r'))) = some x) (us vs : List Value) (hul : us.length = ms.length) (hvl : vs.length = cs.length)
    (hargs : ∀ (i : Nat) (c : MV) (v : Value), ms[i]? = some c → us[i]? = some v → Rep γ ω w c v) (hcaps : ∀ (i : Nat) (c : MV) (v : Value), cs[i]? = some c → vs[i]? = some v → Rep γ ω w c v) : Goes P nt γ ω w a g (us ++ vs).toArray d K x := by
  replace hx := unXN_some hx
  obtain ⟨hB, hx⟩ := hx
  subst hB
  replace hx := unR_some hx
  obtain ⟨r2, hrl, hre, hfr, hx⟩ := hx
  have hs := hcl _ _ _ _ _ _ hc
  refine ⟨hs.1, ?_⟩
  let ω1 : Own := fun b => match ω b with
    | some (.ob k p) => if memN ls k then none else some .outer
    | y => y
  have hn : ∀ b, ω b = none → ω1 b = none := fun b hb => by simp [ω1, hb]
  have hk1 : Keeps γ ω w γ ω1 w := ⟨fun _ _ h => h, Nat.le_refl _, fun b _ h0 => ⟨rfl, hn b h0⟩⟩
  have hnob : ∀ b k p, ω1 b ≠ some (.ob k p) := by
    intro b k p hb
    simp only [ω1] at hb
    split at hb
    · split at hb <;> simp at hb
    · rename_i hno; exact hno k p hb
  obtain ⟨hl1, hr1⟩ := lent_ok (γ := γ) (w := w) (ω1 := ω1) (B := st.B) (l := ls) (ms := ms) (ms' := ms') (fun k o m hmem hk hm v hv => by
    obtain ⟨hd', g1, g2⟩ := h.objs k o hk
    rw [hv] at g1; injection g1 with g1; subst g1
    exact (content_ok hm g2 hn (fun p b hb => by simp [ω1, hb, memN_iff.2 hmem])).2) hm
  refine (hs.2 [] ω1 w (us ++ vs) (by simp [hl1, hul, hvl]) (fun i c v hcm hv => ?_) (fun b hb => hn b (h.lt b hb)) (h.gl.keeps (γ := γ) (γ' := γ) ⟨fun _ _ h => h, Nat.le_refl _, fun b _ h0 => ⟨rfl, hn b h0⟩⟩) rfl (fun b k p hb => (hnob b k p hb).elim) (fun k o hk => by simp at hk)).mono ?_
  · refine Rep.npg (γ := γ) ?_ (npL_get hnp i c hcm)
    refine app_get (R := fun c v => Rep γ ω1 w c v) (by rw [hl1]; exact hul) (fun i c v hcm hv => hr1 i c v hcm (fun c0 hc0 => (hargs i c0 v hc0 hv).keeps hk1)) (fun i c v hcm hv => (hcaps i c v hcm hv).keeps hk1) i c v hcm hv
  rintro e w' ⟨v, γ', ω', he, hcg, hlt', hlen', hlab', hobj', hr, _⟩
  let ω2 : Own := fun b => if b < w.heap.size then ω b else ω' b
  have hold : ∀ b, b < w.heap.size → w'.heap[b]? = w.heap[b]? := by
    intro b hb
    cases h1 : ω1 b with
    | none => exact (hcg.none b hb h1).1
    | some o =>
      cases o with
      | outer => exact (hcg.keep b .outer hb h1 (by simp)).1
      | ob k p => exact (hnob b k p h1).elim
  have hc2 : Chg (fun _ => False) γ ω w γ ω2 w' := ⟨hcg.os, hcg.tape, hcg.output, hcg.size, fun _ _ h => h, fun b hb h0 => ⟨hold b hb, by simp [ω2, hb, h0]⟩, fun b o hb h0 _ => ⟨hold b hb, by simp [ω2, hb, h0]⟩⟩
  have hlt2 : ∀ b, w'.heap.size ≤ b → ω2 b = none := by
    intro b hb
    have : ¬ b < w.heap.size := by have := hcg.size; omega
    simp [ω2, this, hlt' b hb]
  have hR := h.grow hc2 hlt2
  refine ⟨v, γ, ω2, _, he, hc2.mono (fun _ h => h.elim), hR.putO hd ?_, hx⟩
  have e1 := resV_ev (σ := []) hrl hre
  have e2 : Rep γ' ω' w' (ren [] (resV r)) v := hr.rep.ren (fun k k' v hk => by simp [lkN] at hk)
  rw [ren_resV] at e2
  exact (e1.rep e2).flat (flat_resV (hfr hfl))


/-- A call that shares what it hands over, with no objects. -/
theorem plain_ok (hcl : Sound P cl) (h : Rel γ ω w nt st a) {g : FuncId} {sg : List Sh} {ms : List MV} (hnp : npL ms = true) {r : Res} {B' : Bxs} (hc : cl 0 g ms [] = some (r, B')) {d : Option Tmp} (hd : ∀ t, d = some t → t < nt) (hx : unXN B' (unR [] sg r fun r' => K (putO st d (resV r'))) = some x) (us : List Value) (hul : us.length = ms.length)
    (hargs : ∀ (i : Nat) (c : MV) (v : Value), ms[i]? = some c → us[i]? = some v → Rep γ ω w c v) : Goes P nt γ ω w a g us.toArray d K x := by
  replace hx := unXN_some hx
  obtain ⟨hB, hx⟩ := hx
  subst hB
  replace hx := unR_some hx
  obtain ⟨r2, hrl, hre, _, hx⟩ := hx
  have hs := hcl _ _ _ _ _ _ hc
  refine ⟨hs.1, ?_⟩
  have hs' : SpecB P g (renL (numI 0 []) ms) (([] : List Ob).map fun o => some (renO (numI 0 []) o)) r [] := by
    rw [npL_ren _ _ hnp]; exact hs
  refine (call_frame h (l := []) (os := []) (B' := []) List.nodup_nil rfl hs' (by simp) us hul d hd hargs).mono ?_
  rintro e w' ⟨v, γ', ω', he, hcg, hR⟩
  refine ⟨v, γ', ω', _, he, hcg, ?_, hx⟩
  have e0 : numB 0 ([] : List Nat) ++ numB ([] : List Nat).length ((List.range (([] : Bxs).length - ([] : List Nat).length)).map (· + st.B.length)) = [] := rfl
  rw [e0] at hR
  exact hR.evP (B2 := st.B) (by simp only [putB, List.map_nil, List.append_nil]; exact .refl _) (resV_ev hrl hre)

end
end Go.Pv
end
