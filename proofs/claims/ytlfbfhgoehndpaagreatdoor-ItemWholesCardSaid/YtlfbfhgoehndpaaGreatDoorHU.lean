/- The library of this work, H texts, part U: how the words are read in laws. -/
import Derived.Test.YtlfbfhgoehndpaaGreatDoorHT
set_option linter.unusedVariables false
set_option linter.unusedSimpArgs false
namespace Go.Pv

section
variable {α : Type}
@[simp] theorem cnd_true (a b : Option α) : cnd true a b = a := rfl
@[simp] theorem cnd_false (a b : Option α) : cnd false a b = b := rfl
@[simp] theorem cnd_decide (p : Prop) [Decidable p] (a b : Option α) : cnd (decide p) a b = if p then a else b := by
  by_cases h : p
  · rw [decide_eq_true h, if_pos h]; rfl
  · rw [decide_eq_false h, if_neg h]; rfl
@[simp] theorem cnd_not (b : Bool) (x y : Option α) : cnd (!b) x y = cnd b y x := by cases b <;> rfl
theorem gd_eq (p : Prop) [Decidable p] (o : Option α) : gd p o = if p then o else none := rfl
theorem gd_pos {p : Prop} [Decidable p] (h : p) (o : Option α) : gd p o = o := if_pos h
@[simp] theorem gd_true (o : Option α) : gd True o = o := rfl
theorem gL_pos {n : Nat} (h : n ≤ 1000000000) (o : Option α) : gL n o = o := if_pos h
theorem stG_pos {a b : ByteArray} (h : a.size + b.size ≤ 9223372036854775807) (o : Option α) : stG a b o = o := if_pos h
@[simp] theorem sB_true (o : Option α) : sB true o = o := rfl
@[simp] theorem sB_false (o : Option α) : sB false o = none := rfl
@[simp] theorem sO_some' {β : Type} (b : β) (K : β → Option α) : sO (some b) K = K b := rfl
theorem rd_get {es : List (List MV)} {i : Int} {e : List MV} (h0 : 0 ≤ i) (he : es[i.toNat]? = some e) (K : List MV → Option α) : rd es i K = K e := by
  unfold rd; rw [if_pos h0, he]
theorem rd_nat {es : List (List MV)} {i : Nat} {e : List MV} (he : es[i]? = some e) (K : List MV → Option α) : rd es (i : Int) K = K e := rd_get (by omega) (by simpa using he) K
theorem rdN_get {es : List (List MV)} {i : Nat} {e : List MV} (he : es[i]? = some e) (K : List MV → Option α) : rdN es i K = K e := by
  unfold rdN; rw [he]
theorem ixG_pos {n : Nat} {i : Int} (h0 : 0 ≤ i) (h1 : i.toNat < n) (o : Option α) : ixG n i o = o := if_pos ⟨h0, h1⟩
theorem ixS_pos {s : ByteArray} {i : Int} (h0 : 0 ≤ i) (h1 : i.toNat < s.size) (K : Int → Option α) : ixS s i K = K (bAt s i.toNat) := if_pos ⟨h0, h1⟩
@[simp] theorem dI_int (k : IntKind) (n : Int) (K : Int → Option α) : dI k (.int k n) K = K n := by simp [dI]
@[simp] theorem dB_bool (b : Bool) (K : Bool → Option α) : dB (.bool b) K = K b := rfl
@[simp] theorem dS_str (b : ByteArray) (K : ByteArray → Option α) : dS (.str b) K = K b := rfl
@[simp] theorem dL_list (b : List (List MV)) (K : List (List MV) → Option α) : dL (.list b) K = K b := rfl
@[simp] theorem dSq_seq (f : FuncId) (b : List (MKey × MV)) (K : FuncId → List (MKey × MV) → Option α) : dSq (.seq f (.map b)) K = K f b := rfl
@[simp] theorem dA_agg (b : List MV) (K : List MV → Option α) : dA (.agg b) K = K b := rfl
@[simp] theorem dF_fn (f : FuncId) (b : List MV) (K : FuncId → List MV → Option α) : dF (.fn f b) K = K f b := rfl
@[simp] theorem dM_map (b : List (MKey × MV)) (K : List (MKey × MV) → Option α) : dM (.map b) K = K b := rfl
@[simp] theorem unC_cons (m : MV) (r : List MV) (K : MV → List MV → Option α) : unC (m :: r) K = K m r := rfl
@[simp] theorem unN_nil (o : Option α) : unN [] o = o := rfl
@[simp] theorem cel_zero (m : MV) (r : List MV) (K : MV → Option α) : cel (m :: r) 0 K = K m := rfl
@[simp] theorem cel_succ (m : MV) (r : List MV) (i : Nat) (K : MV → Option α) : cel (m :: r) (i + 1) K = cel r i K := by simp [cel]
@[simp] theorem callE_some' (r : Res) (B : Bxs) (K : Res → Bxs → Option α) : callE (some (r, B)) K = K r B := rfl
theorem both_eq {a b : Option α} {x : α} (h1 : a = some x) (h2 : b = some x) : both a b = some x := by subst h1; subst h2; simp [both]
theorem nilB_eq {es : List (List MV)} {a b : Option α} {x : α} (h2 : b = some x) (h1 : es = [] → a = some x) : nilB es a b = some x := by
  cases es with
  | nil => exact both_eq (h1 rfl) h2
  | cons y r => exact h2
@[simp] theorem unXN_nil (o : Option α) : unXN [] o = o := rfl
@[simp] theorem unX_cons (x : Option Ob) (r : Bxs) (K : Option Ob → Bxs → Option α) : unX (x :: r) K = K x r := rfl
@[simp] theorem dBx_box (cs : List MV) (K : List MV → Option α) : dBx (some (.box cs)) K = K cs := rfl
@[simp] theorem dRw_row (dp : Bool) (sz : Nat) (es : List (List MV)) (K : List (List MV) → Option α) : dRw dp sz (some (.row dp sz es [])) K = K es := by simp [dRw]
@[simp] theorem dMp_map (dp : Bool) (m : List (MKey × MV)) (K : List (MKey × MV) → Option α) : dMp dp (some (.map dp m [])) K = K m := by simp [dMp]
@[simp] theorem dRf_ref (k : Nat) (o : Option α) : dRf k (.ref k) o = o := by simp [dRf]
@[simp] theorem dPt_ptr (k o : Nat) (K : Option α) : dPt k o (.ptr k o) K = K := by simp [dPt]
@[simp] theorem rI_some (k : IntKind) (x : Int) (K : Int → Option α) : rI k (some ([.int k x], [])) K = K x := by simp [rI]
@[simp] theorem rB_some (x : Bool) (K : Bool → Option α) : rB (some ([.bool x], [])) K = K x := by simp [rB]
@[simp] theorem rS_some (x : ByteArray) (K : ByteArray → Option α) : rS (some ([.str x], [])) K = K x := by simp [rS]
@[simp] theorem rL_some (x : List (List MV)) (K : List (List MV) → Option α) : rL (some ([.list x], [])) K = K x := by simp [rL]
@[simp] theorem rM_some (x : List (MKey × MV)) (K : List (MKey × MV) → Option α) : rM (some ([.map x], [])) K = K x := by simp [rM]
@[simp] theorem rO_some (sz : Nat) (x : List (List MV)) (K : List (List MV) → Option α) : rO sz (some ([.ref 0], [some (.row false sz x [])])) K = K x := by simp [rO]
@[simp] theorem skI_some (k : IntKind) (x : List (List MV)) (y z : Int) (K : List (List MV) → Int → Int → Option α) : skI k (some ([.int k z], [some (.box [.list x, .int .i64 y])])) K = K x y z := by simp [skI]
@[simp] theorem skB_some (x : List (List MV)) (y : Int) (z : Bool) (K : List (List MV) → Int → Bool → Option α) : skB (some ([.bool z], [some (.box [.list x, .int .i64 y])])) K = K x y z := by simp [skB]
@[simp] theorem skS_some (x : List (List MV)) (y : Int) (z : ByteArray) (K : List (List MV) → Int → ByteArray → Option α) : skS (some ([.str z], [some (.box [.list x, .int .i64 y])])) K = K x y z := by simp [skS]
@[simp] theorem eqM_self' (m : MV) (o : Option α) : eqM m m o = o := eqM_self m o
theorem npG_pos {l : List MV} (h : npL l = true) (o : Option α) : npG l o = o := by unfold npG; rw [h]
end

@[simp] theorem np_int (k : IntKind) (n : Int) : np (.int k n) = true := rfl
@[simp] theorem np_bool (n : Bool) : np (.bool n) = true := rfl
@[simp] theorem np_str (n : ByteArray) : np (.str n) = true := rfl
@[simp] theorem np_list (n : List (List MV)) : np (.list n) = true := rfl
@[simp] theorem np_map (n : List (MKey × MV)) : np (.map n) = true := rfl
@[simp] theorem np_seq (f : FuncId) (n : MV) : np (.seq f n) = true := rfl
@[simp] theorem np_cptr (n : List MV) (o : Nat) : np (.cptr n o) = true := rfl
@[simp] theorem np_agg (n : List MV) : np (.agg n) = npL n := by simp [np]
@[simp] theorem np_fn (f : FuncId) (n : List MV) : np (.fn f n) = npL n := by simp [np]
@[simp] theorem npL_nil : npL [] = true := rfl
@[simp] theorem npL_cons (m : MV) (r : List MV) : npL (m :: r) = (np m && npL r) := by simp [npL]
theorem npL_append : ∀ (a b : List MV), npL (a ++ b) = (npL a && npL b)
  | [], b => by simp
  | m :: r, b => by simp [npL_append r b, Bool.and_assoc]
theorem eqO_self (r : Res) : eqO (some (r, [])) (some (r, [])) = some (r, []) := by
  simp [eqO, mvBL_self, bxB]

/-- A row of numbers. -/
def i1 (x : Int) : List MV := [.int .i64 x]
@[simp] theorem npL_i1 (x : Int) : npL (i1 x) = true := rfl
theorem map_get {β : Type} (f : β → List MV) {xs : List β} {i : Nat} (h : i < xs.length) : (xs.map f)[i]? = some (f xs[i]) := by simp [h]

theorem w64 {x : Int} (h0 : -9223372036854775808 ≤ x) (h1 : x ≤ 9223372036854775807) : IntKind.i64.wrap x = x := by
  simp [IntKind.wrap, IntKind.signed, IntKind.bits, IntKind.max, IntKind.min]
  all_goals omega
theorem wu64 {x : Int} (h0 : 0 ≤ x) (h1 : x ≤ 18446744073709551615) : IntKind.u64.wrap x = x := by
  simp [IntKind.wrap, IntKind.signed, IntKind.bits, IntKind.max, IntKind.min]
  all_goals omega
theorem wu32 {x : Int} (h0 : 0 ≤ x) (h1 : x ≤ 4294967295) : IntKind.u32.wrap x = x := by
  simp [IntKind.wrap, IntKind.signed, IntKind.bits, IntKind.max, IntKind.min]
  all_goals omega
theorem wu32m (x : Int) : IntKind.u32.wrap x = x % 4294967296 := by
  simp [IntKind.wrap, IntKind.signed, IntKind.bits]
theorem wu64m (x : Int) : IntKind.u64.wrap x = x % 18446744073709551616 := by
  simp [IntKind.wrap, IntKind.signed, IntKind.bits]

end Go.Pv
