/- Contracts of Go's library, out of the kit's shelf: strings.Trim, strings.Fields, strings.Split. -/
import Derived.Test.YtgffjfhdcdpolaaGreatDoorSh
import Derived.Test.YtgffjfhdcdpolaaGreatDoorTi
import Derived.Test.YtgffjfhdcdpolaaGreatDoorHV
import Derived.Shelf.Strings.SlTrimAscii
import Derived.Shelf.Strings.Fields
import Derived.Shelf.Strings.Split
set_option linter.unusedSimpArgs false
set_option linter.unusedVariables false
set_option maxRecDepth 100000
namespace Go.Pv
open Go Go.Proofs

theorem gp_at {ω : Own} {w : World} (h : GOk ω w) {name : String} {k : IntKind} {zs : List Int} (hq : ∀ w0, GP w0 → Go.Lib.TabIs Tryz.prog w0 name k zs) : Go.Lib.TabIs Tryz.prog w name k zs := by
  obtain ⟨w0, h0, h1⟩ := h
  have h2 := hq w0 h0
  unfold Go.Lib.TabIs World.var? at h2 ⊢
  cases hg : (Tryz.prog).globalNamed name with
  | none => rw [hg] at h2; exact h2
  | some g =>
    rw [hg] at h2
    simp only [Option.bind_some] at h2 ⊢
    have hlt : g < w0.heap.size := by
      cases e : w0.heap[g]? with
      | none => rw [e] at h2; simp at h2
      | some o => exact (Array.getElem?_eq_some_iff.1 e).1
    rw [(h1 g hlt).2]; exact h2
theorem gp_cell {ω : Own} {w : World} (h : GOk ω w) {g : Nat} (hq : ∀ w0, GP w0 → ∃ m : Int, w0.cell? ⟨g, 0, none⟩ = some (.int .i64 m)) : ∃ m : Int, w.cell? ⟨g, 0, none⟩ = some (.int .i64 m) := by
  obtain ⟨w0, h0, h1⟩ := h
  obtain ⟨m, hm⟩ := hq w0 h0
  have hlt : g < w0.heap.size := by
    have := World.block_lt_of_cell? w0 _ hm
    exact this
  exact ⟨m, by rw [cell_of_heap (h1 g hlt).2]; exact hm⟩

def trimH : Cl → List MV → Bxs → Out
  | _, [.str s, .str c], [] => if s.size ≤ 9223372036854775807 ∧ c.size < 4294967281 ∧ c.data.toList.all (fun b => decide (b.toNat < 128)) = true then some ([.str ⟨(Go.Lib.trimS s.data.toList c.data.toList).toArray⟩], []) else none
  | _, _, _ => none
theorem trim_ok (cl : Cl) (_ : Sound Tryz.prog cl) (args : List MV) (B : Bxs) (r : Res) (B' : Bxs) (h : trimH cl args B = some (r, B')) : SpecB Tryz.prog 129 args B r B' := by
  unfold trimH at h
  split at h
  · rename_i s c
    split at h
    · rename_i hc
      cases h
      refine spec_below (V := fun _ _ => True) (enter_of Tryz.func129 rfl rfl) (fun γ ω w vs hl hv => two_strs hl hv) (fun ω w _ _ => ?_)
      refine (Any.strings_Trim_laid sh160 (by kernel_rfl) s c w hc.1 hc.2.1 (ascii_of_all hc.2.2)).mono fun e w' ⟨he, hb⟩ => ⟨_, he, hb, .str _⟩
    · cases h
  · cases h
def fieldsH : Cl → List MV → Bxs → Out
  | _, [.str s], [] => if s.size < 4294967281 ∧ s.data.toList.all (fun b => decide (b.toNat < 128)) = true then some ([.list ((Go.Lib.fields s.data.toList).map fun l => [.str ⟨l.toArray⟩])], []) else none
  | _, _, _ => none
theorem fields_ok (cl : Cl) (_ : Sound Tryz.prog cl) (args : List MV) (B : Bxs) (r : Res) (B' : Bxs) (h : fieldsH cl args B = some (r, B')) : SpecB Tryz.prog 98 args B r B' := by
  unfold fieldsH at h
  split at h
  · rename_i s
    split at h
    · rename_i hc
      cases h
      refine spec_below (V := fun _ _ => True) (enter_of Tryz.func98 rfl rfl) (fun γ ω w vs hl hv => one_str hl hv) (fun ω w hlt hg => ?_)
      refine (Any.strings_Fields sh157 (by kernel_rfl) (by kernel_rfl) s w hc.1 (ascii_of_all hc.2) (gp_at hg fun w0 h0 => h0.asciiSpace)).mono fun e w' ⟨he, hb⟩ => ⟨_, he, by rw [hb]; exact below_alloc _ _, ?_⟩
      rw [hb]
      have := rep_strs ((Go.Lib.fields s.data.toList).map fun l => ⟨l.toArray⟩) ω w hlt (sh157_ren.t 9)
      simpa [List.map_map, Function.comp_def] using this
    · cases h
  · cases h
def splitH : Cl → List MV → Bxs → Out
  | _, [.str s, .str c], [] => if s.size < 4294967281 ∧ 1 ≤ c.size then some ([.list ((Go.Lib.splitB c 0 (Go.Lib.countB s c) s).map fun l => [.str l])], []) else none
  | _, _, _ => none
theorem split_ok (cl : Cl) (_ : Sound Tryz.prog cl) (args : List MV) (B : Bxs) (r : Res) (B' : Bxs) (h : splitH cl args B = some (r, B')) : SpecB Tryz.prog 60 args B r B' := by
  unfold splitH at h
  split at h
  · rename_i s c
    split at h
    · rename_i hc
      cases h
      refine spec_below (V := fun _ _ => True) (enter_of Tryz.func60 rfl rfl) (fun γ ω w vs hl hv => two_strs hl hv) (fun ω w hlt hg => ?_)
      obtain ⟨m, hm⟩ := gp_cell hg (g := sh146_ren.g 1) fun w0 h0 => h0.maxLen
      refine (Any.strings_Split sh146 (by kernel_rfl) s c m w hc.1 hm hc.2).mono fun e w' ⟨he, hb⟩ => ⟨_, he, by rw [hb]; exact below_alloc _ _, ?_⟩
      rw [hb]
      have := rep_strs (Go.Lib.splitB c 0 (Go.Lib.countB s c) s) ω w hlt (sh146_ren.t 9)
      rw [Go.Lib.splitB_all c hc.2 0 _ s rfl] at this
      exact this
    · cases h
  · cases h
end Go.Pv
