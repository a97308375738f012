/- Contracts of Go's library, out of the kit's shelf: strings.Join, strings.Clone, the search for a string in a string. -/
import Derived.Test.YtgffjfhdcdpolaaGreatDoorSh2
import Derived.Test.YtgffjfhdcdpolaaGreatDoorH1
import Derived.Shelf.Strings.OnBuilder
import Derived.Shelf.Strings.Search2
import Derived.Shelf.Strconv.Clone
set_option linter.unusedSimpArgs false
set_option linter.unusedVariables false
set_option maxRecDepth 100000
namespace Go.Pv
open Go Go.Proofs

/-- A contract of the shelf that leaves what was there as it was; what the arguments are is told. -/
theorem spec_belowR {P : Program} {f : FuncId} {args : List MV} {R : Own → World → List Value → Prop} {rv : MV}
    (hent : ∀ (av : Array Value) (w : World), (callFunc f av).run P w = .ok (.enter f av) w)
    (hv : ∀ (γ : List Value) (ω : Own) (w : World) (vs : List Value), vs.length = args.length → (∀ (i : Nat) (c : MV) (u : Value), args[i]? = some c → vs[i]? = some u → Rep γ ω w c u) → R ω w vs)
    (hc : ∀ (ω : Own) (w : World) (vs : List Value), (∀ b, w.heap.size ≤ b → ω b = none) → GOk ω w → R ω w vs → Calls P f vs.toArray w fun e w' => ∃ v, e = .returned v ∧ Go.RowKit.Below w.heap.size w w' ∧ Rep [] ω w' rv v) : SpecB P f args [] [rv] [] := by
  refine ⟨hent, fun γ ω w vs hl hrep hlt hgl hlen hlab hobj => ?_⟩
  have hγ : γ = [] := List.eq_nil_of_length_eq_zero hlen
  subst hγ
  refine (hc ω w vs hlt hgl (hv [] ω w vs hl hrep)).mono fun e w' ⟨v, he, hb, hr⟩ => ?_
  exact ⟨v, [], ω, he, ⟨hb.os, hb.tape, hb.output, hb.size, fun _ _ h => h, fun b h h0 => ⟨hb.block b h, h0⟩, fun b o h h0 _ => ⟨hb.block b h, h0⟩⟩, fun b h => hlt b (Nat.le_trans hb.size h), rfl, hlab, fun k o hk => by simp at hk, hr, by simp⟩
/-- Rows of strings. -/
def unStrs : List (List MV) → Option (List ByteArray)
  | [] => some []
  | [.str s] :: r => (unStrs r).map (s :: ·)
  | _ => none
theorem unStrs_eq : ∀ {es : List (List MV)} {xs : List ByteArray}, unStrs es = some xs → es = xs.map fun s => [.str s]
  | [], xs, h => by simp [unStrs] at h; subst h; rfl
  | e :: r, xs, h => by
    unfold unStrs at h
    split at h
    · rename_i heq; simp at heq
    · rename_i s r' heq
      obtain ⟨rfl, rfl⟩ := List.cons.inj heq
      cases hr : unStrs r with
      | none => rw [hr] at h; simp at h
      | some l =>
        rw [hr] at h; simp at h; subst h
        rw [unStrs_eq hr]; rfl
    · simp at h
theorem list_cells {γ : List Value} {ω : Own} {w : World} {xs : List ByteArray} {v : Value} (h : Rep γ ω w (.list (xs.map fun s => [.str s])) v) :
    (xs = [] ∧ ∃ a c, v = .slice a 0 c) ∨ ∃ b o c, v = .slice (some ⟨b, o, none⟩) xs.length c ∧ xs.length ≤ c ∧ b < w.heap.size ∧ ∀ (j : Nat) (x : ByteArray), xs[j]? = some x → w.cell? ⟨b, o + j, none⟩ = some (.string x) := by
  generalize hes : xs.map (fun s => [MV.str s]) = es at h
  cases h with
  | list0 a cap =>
    left
    exact ⟨by simpa using hes, a, cap, rfl⟩
  | list _ sz b o cap us hcap hω hlt hsz hn hc hr =>
    right
    subst hes
    refine ⟨b, o, cap, by simp, by simpa using hcap, hlt, fun j x hj => ?_⟩
    have hj' : (xs.map fun s => [MV.str s])[j]? = some [.str x] := by rw [List.getElem?_map, hj]; rfl
    have h1 : sz = 1 := by have := hsz _ (List.mem_of_getElem? hj'); simpa using this.symm
    have h2 := (hc j _ hj' 0 (.str x) rfl).1
    have h3 := hr j _ hj' 0 (.str x) rfl
    subst h1
    generalize us j 0 = u at h2 h3
    cases h3 with
    | str _ => simpa using h2
theorem extra156 : Builder.Extra Tryz.prog sh156_ren where
  sizeBuilder := by kernel_rfl
  liesBuilder := by kernel_rfl
  t5 := by kernel_rfl
  a5 := fun w => by kernel_rfl
  z5 := fun w => by kernel_rfl
  v5 := fun w => by kernel_rfl
  infoByte := by kernel_rfl
  cellsByte := by kernel_rfl
  sizeByte := by kernel_rfl
  neB5 := by decide
def joinH : Cl → List MV → Bxs → Out
  | _, [.list es, .str c], [] => match unStrs es with
    | some xs => if xs.length ≤ 1000000 ∧ (Go.Lib.join (xs.map (·.data.toList)) c.data.toList).length ≤ 140737488355328 then some ([.str ⟨(Go.Lib.join (xs.map (·.data.toList)) c.data.toList).toArray⟩], []) else none
    | none => none
  | _, _, _ => none
theorem join_ok (cl : Cl) (_ : Sound Tryz.prog cl) (args : List MV) (B : Bxs) (r : Res) (B' : Bxs) (h : joinH cl args B = some (r, B')) : SpecB Tryz.prog 42 args B r B' := by
  unfold joinH at h
  split at h
  · rename_i es c
    split at h
    · rename_i xs hxs
      split at h
      · rename_i hc
        cases h
        have := unStrs_eq hxs
        subst this
        refine spec_belowR (R := fun ω w vs => ∃ v, vs = [v, .string c] ∧ ((xs = [] ∧ ∃ a k, v = .slice a 0 k) ∨ ∃ b o k, v = .slice (some ⟨b, o, none⟩) xs.length k ∧ xs.length ≤ k ∧ b < w.heap.size ∧ ∀ (j : Nat) (x : ByteArray), xs[j]? = some x → w.cell? ⟨b, o + j, none⟩ = some (.string x))) (enter_of Tryz.func42 rfl rfl) (fun γ ω w vs hl hv => ?_) (fun ω w vs hlt hg hR => ?_)
        · match vs, hl with
          | [v, u], _ =>
            have r1 := hv 0 _ v rfl rfl
            have r2 := hv 1 _ u rfl rfl
            cases r2
            exact ⟨v, rfl, list_cells r1⟩
        · obtain ⟨v, rfl, hv⟩ := hR
          rcases hv with ⟨rfl, a, k, rfl⟩ | ⟨b, o, k, rfl, h1, h2, h3⟩
          · refine (Any.strings_Join_none sh156 extra156 a k c w).mono fun e w' ⟨he, hb⟩ => ⟨_, he, by rw [hb]; exact Go.RowKit.Below.refl _ _, ?_⟩
            simp only [List.map_nil]
            exact .str _
          · exact (Any.strings_Join sh156 extra156 b o k xs c w h3 h2 (by omega) h1 hc.2).mono fun e w' ⟨he, hb⟩ => ⟨_, he, hb, .str _⟩
      · cases h
    · cases h
  · cases h
def cloneH : Cl → List MV → Bxs → Out
  | _, [.str s], [] => if s.size ≤ 281474976710656 then some ([.str s], []) else none
  | _, _, _ => none
theorem clone_ok (cl : Cl) (_ : Sound Tryz.prog cl) (args : List MV) (B : Bxs) (r : Res) (B' : Bxs) (h : cloneH cl args B = some (r, B')) : SpecB Tryz.prog 102 args B r B' := by
  unfold cloneH at h
  split at h
  · rename_i s
    split at h
    · rename_i hc
      cases h
      refine spec_below (V := fun _ _ => True) (enter_of Tryz.func102 rfl rfl) (fun γ ω w vs hl hv => one_str hl hv) (fun ω w hlt hg => ?_)
      exact (Any.stringslite_Clone sh316 s w hc).mono fun e w' ⟨he, hb⟩ => ⟨_, he, hb, .str _⟩
    · cases h
  · cases h
def indexH : Cl → List MV → Bxs → Out
  | _, [.str s, .str c], [] => if s.size < 4294967281 then some ([.int .i64 (Go.Lib.index s.data.toList c.data.toList)], []) else none
  | _, _, _ => none
theorem index_ok (cl : Cl) (_ : Sound Tryz.prog cl) (args : List MV) (B : Bxs) (r : Res) (B' : Bxs) (h : indexH cl args B = some (r, B')) : SpecB Tryz.prog 173 args B r B' := by
  unfold indexH at h
  split at h
  · rename_i s c
    split at h
    · rename_i hc
      cases h
      refine spec_below (V := fun _ _ => True) (enter_of Tryz.func173 rfl rfl) (fun γ ω w vs hl hv => two_strs hl hv) (fun ω w hlt hg => ?_)
      obtain ⟨m, hm⟩ := gp_cell hg (g := sh219_ren.g 1) fun w0 h0 => h0.maxLen
      refine (Any.stringslite_Index sh219 s c m w hc hm).mono fun e w' ⟨he, hb⟩ => ⟨_, he, by rw [hb]; exact Go.RowKit.Below.refl _ _, .int _ _⟩
    · cases h
  · cases h
end Go.Pv
