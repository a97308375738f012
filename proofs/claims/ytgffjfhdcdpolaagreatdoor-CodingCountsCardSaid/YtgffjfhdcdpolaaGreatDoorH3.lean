/- Contracts of Go's library, out of the kit's shelf: strings.Repeat, utf8.ValidString. -/
import Derived.Test.YtgffjfhdcdpolaaGreatDoorSh3
import Derived.Test.YtgffjfhdcdpolaaGreatDoorH2
import Derived.Shelf.Strings.Repeat
import Derived.Shelf.Unicode.ValidAny
set_option linter.unusedSimpArgs false
set_option linter.unusedVariables false
set_option maxRecDepth 100000
namespace Go.Pv
open Go Go.Proofs

theorem gp_utf8 {ω : Own} {w : World} (h : GOk ω w) {g3 g4 : Nat} (hq : ∀ w0, GP w0 → Go.Lib.Utf8Tabs g3 g4 w0) : Go.Lib.Utf8Tabs g3 g4 w := by
  obtain ⟨w0, h0, h1⟩ := h
  obtain ⟨q1, q2⟩ := hq w0 h0
  have hlt : ∀ (g o : Nat) (v : Value), w0.cell? ⟨g, o, none⟩ = some v → w.cell? ⟨g, o, none⟩ = some v := fun g o v hv => by
    have : g < w0.heap.size := World.block_lt_of_cell? w0 _ hv
    rw [cell_of_heap (h1 g this).2]; exact hv
  exact ⟨fun c hc => hlt _ _ _ (q1 c hc), fun i hi => ⟨hlt _ _ _ (q2 i hi).1, hlt _ _ _ (q2 i hi).2⟩⟩
def validH : Cl → List MV → Bxs → Out
  | _, [.str s], [] => if s.size ≤ 9223372036854775807 then some ([.bool (Go.Lib.validD s.data.toList)], []) else none
  | _, _, _ => none
theorem valid_ok (cl : Cl) (_ : Sound Tryz.prog cl) (args : List MV) (B : Bxs) (r : Res) (B' : Bxs) (h : validH cl args B = some (r, B')) : SpecB Tryz.prog 155 args B r B' := by
  unfold validH at h
  split at h
  · rename_i s
    split at h
    · rename_i hc
      cases h
      refine spec_below (V := fun _ _ => True) (enter_of Tryz.func155 rfl rfl) (fun γ ω w vs hl hv => one_str hl hv) (fun ω w hlt hg => ?_)
      exact (Any.utf8_ValidString sh196 s w hc (gp_utf8 hg fun w0 h0 => h0.utf8)).mono fun e w' ⟨he, hb⟩ => ⟨_, he, hb, .bool _⟩
    · cases h
  · cases h
theorem extra105 : Builder.Extra Tryz.prog sh105_ren where
  sizeBuilder := by kernel_rfl
  liesBuilder := by kernel_rfl
  t5 := by kernel_rfl
  a5 := fun w => by kernel_rfl
  z5 := fun w => by kernel_rfl
  v5 := fun w => by kernel_rfl
  infoByte := by kernel_rfl
  cellsByte := by kernel_rfl
  sizeByte := by kernel_rfl
  neB5 := by decide
theorem str_int {a : ByteArray} {k : IntKind} {n : Int} {γ : List Value} {ω : Own} {w : World} {vs : List Value} (hl : vs.length = [MV.str a, MV.int k n].length) (h : ∀ (i : Nat) (c : MV) (u : Value), [MV.str a, MV.int k n][i]? = some c → vs[i]? = some u → Rep γ ω w c u) : vs = [.string a, .int k n] := by
  obtain ⟨v0, v1, rfl⟩ : ∃ v0 v1, vs = [v0, v1] := by
    match vs, hl with
    | [a, b], _ => exact ⟨a, b, rfl⟩
  have r0 := h 0 (.str a) v0 rfl rfl
  have r1 := h 1 (.int k n) v1 rfl rfl
  cases r0
  cases r1
  rfl
def repeatH : Cl → List MV → Bxs → Out
  | _, [.str s, .int .i64 c], [] => if 0 ≤ c ∧ c ≤ 9223372036854775807 ∧ s.size * c.toNat ≤ 140737488355328 then some ([.str ⟨(Go.Lib.repeatL s.data.toList c.toNat).toArray⟩], []) else none
  | _, _, _ => none
theorem repeat_ok (cl : Cl) (_ : Sound Tryz.prog cl) (args : List MV) (B : Bxs) (r : Res) (B' : Bxs) (h : repeatH cl args B = some (r, B')) : SpecB Tryz.prog 114 args B r B' := by
  unfold repeatH at h
  split at h
  · rename_i s c
    split at h
    · rename_i hc
      cases h
      obtain ⟨n, rfl⟩ : ∃ n : Nat, c = n := ⟨c.toNat, by omega⟩
      refine spec_below (V := fun _ _ => True) (enter_of Tryz.func114 rfl rfl) (fun γ ω w vs hl hv => str_int hl hv) (fun ω w hlt hg => ?_)
      exact (Any.strings_Repeat sh105 extra105 s n w (by omega) (by simpa using hc.2.2)).mono fun e w' ⟨he, hb⟩ => ⟨_, he, hb, .str _⟩
    · cases h
  · cases h
end Go.Pv
