/- The law ItemWholes holds for every input: its contract, lifted to the given row. No condition. -/
import Derived.Test.YtlfbfhgoehndpaaGreatDoorRows
import Derived.Test.YtlfbfhgoehndpaaGreatDoorZ0
import Derived.Test.YtlfbfhgoehndpaaGreatDoorZ4
import Derived.WalkKit
import Derived.ProofKit
import Derived.OpenShut
import Derived.ShutString
import Derived.ChangeOld
import Derived.Stop.LaidErr
import Derived.Shelf.Vars
import Derived.Lib.LaidTab
import Derived.Lib.LaidU8T
import Derived.Lay
import Derived.LaidMore
import Derived.LaidLaws
import Derived.Handed
import Derived.Stop.Joined
import Derived.SevenTiedAt
import Derived.Test.YtlfbfhgoehndpaaGreatDoorTie
import Derived.Test.YtlfbfhgoehndpaaGreatDoorCards
import Derived.Below
import Derived.SizedLaws
namespace Go.Proofs.YtlfbfhgoehndpaaGreatDoor.itemWholes
open Go.ChangeShapes Go.WideShapes Go.ChangeAt Go.RowKit Go.Pv
open Go.ChangeMaps (open_string shut_string)
open Go.Lib (tabIs_of_head)
open Go.Proofs (cell_of_shapedOpen_int)
set_option linter.unusedVariables false
theorem errT_star : "*" ++ "errors.errorString" = "*errors.errorString" := by decide
theorem errT_row {u : TypeId} (h : Tryz.prog.typeName? 3 u = some "*errors.errorString") : u = 229 :=
  typeName_ptr_named (nm := "errors.errorString") (by rw [errT_star]; kernel_rfl) (by kernel_rfl) (by decide) u (by rw [errT_star]; exact h)
theorem own : ownKnob Tryz.prog.godebug = none := by kernel_rfl
theorem laidOut : laidOutB Tryz.prog = true := by kernel_rfl
set_option maxRecDepth 100000 in
theorem lifted (os : Os) (started : os.Started) (H : Type) (enc : TypeId × Value → H) :
    ReturnsInHanded {} Tryz.checked os 6 .any (fun w args => (Rows.itemWholesSpec.pre enc Tryz.prog Tryz.f6 [] false w args ∧ laidMetH Tryz.prog Rows.itemWholesRow.laid w) ∧ sizedMet enc Tryz.prog Tryz.f6 (OpenSpec.ofChange Rows.itemWholesSpec) false w args) (Rows.itemWholesSpec.post enc Tryz.prog Tryz.f6 false true false false) := by
  refine handed_and_shaped (C := Tryz.checked) (X := fun w _ => laidMetH Tryz.prog Rows.itemWholesRow.laid w) (fun _ _ _ hh h => h.of_heap hh) own started (by kernel_rfl) Tryz.func6
    (ChangeSpec.witness_shaped (enc := enc) (C := Tryz.checked) (os := os) (X := fun w _ => laidMetH Tryz.prog Rows.itemWholesRow.laid w) false (World.laidAll Tryz.prog os Rows.itemWholesRow.laid) #[.slice none 0 0] 8 (World.laidAll_os _ _ _)
      (World.shaped_of_RefB (by kernel_rfl) (by kernel_rfl)) (by kernel_rfl) (by kernel_rfl) (by kernel_rfl)
      (by rw [MakeChecks.laidMetH_plain _ _ _ (by kernel_rfl)]; exact laidMet_laidAll _ (by kernel_rfl) (by kernel_rfl))) ?_
  intro W base args ds gs before hval0 hW _ hsz0 hL hsh _
  have hval : ∀ (j : Nat) t v, Tryz.f6.params[j]? = some t → args[j]? = some v → Value.okWide Tryz.prog W .any base t v := hval0
  have hW' := hW
  obtain ⟨p, q, hA0, hV, rfl, hfz, hnd⟩ := hW
  have hA : DataW.TrodAll enc Tryz.prog W 0 (fun _ => true) true Tryz.f6.params.toList args.toList ds p := hA0
  rw [Tryz.params6] at hA hval
  obtain ⟨v0, vs0, d0, ds0, p0, q0, hargs, rfl, rfl, h0, r0⟩ := trodAll_cons hA
  obtain ⟨rfl, rfl, rfl⟩ := trodAll_nil r0
  obtain rfl : args = #[v0] := by cases args; simp_all
  obtain ⟨rfl, rfl⟩ := trodVars_none hV
  obtain ⟨a0, len0, cap0, rfl⟩ := okWide_slice Tryz.underlying22 (hval 0 22 v0 rfl rfl)
  have k0 := h0
  have lt0 : ∀ x ∈ p0, x.block < W.heap.size := by obtain ⟨m, hm⟩ := k0; exact DataW.trod_lt m _ _ _ hm
  obtain ⟨z0, w0⟩ : ∃ zs, IsRow .i64 W a0 len0 cap0 zs := by
    obtain ⟨fuel, hf⟩ := h0
    rcases open_ints Tryz.underlying22 Tryz.underlying3 (by kernel_rfl) hf with ⟨hcs, _⟩ | ⟨x, l, c, zs, hcs, _, hl, hm, hz, _, hcell, hwz⟩
    · simp [Value.cells] at hcs
      obtain ⟨rfl, rfl, rfl⟩ := hcs
      exact ⟨[], .inl ⟨rfl, rfl, rfl, rfl⟩⟩
    · simp [Value.cells] at hcs
      obtain ⟨rfl, rfl, rfl⟩ := hcs
      exact ⟨zs, .inr ⟨_, rfl, hl, hm, by simpa using hz, hcell, hwz⟩⟩
  have hL0 : laidMet Tryz.prog Rows.itemWholesRow.laid W := by rw [← MakeChecks.laidMetH_plain _ _ _ (by kernel_rfl)]; exact hL
  have hgp : GP W := ⟨cell_of_shapedOpen_int (P := Tryz.prog) (g := 2) (t := 3) (zero := #[.int .i64 0]) hsh (of_decide_eq_true (by kernel_rfl)) (by kernel_rfl) rfl (by kernel_rfl) (by kernel_rfl) Tryz.underlying3,
      utf8Tabs_of_readsT (ρ := sh196_ren) (U8Types.of196 sh196) ⟨by kernel_rfl, by kernel_rfl, by kernel_rfl, by kernel_rfl, by kernel_rfl, by kernel_rfl, by kernel_rfl⟩ (Lib.laidMet.reads hL0 (by rw [show Go.Lib.firstData = Rows.laid_unicode_utf8_first by kernel_rfl]; exact .tail _ (.tail _ (.tail _ (.tail _ (.tail _ (.tail _ (.head _)))))))) (Lib.laidMet.reads hL0 (by rw [show Go.Lib.acceptData = Rows.laid_unicode_utf8_acceptRanges by kernel_rfl]; exact .tail _ (.tail _ (.tail _ (.head _))))),
      tabIs_of_head (P := Tryz.prog) (name := "math/bits.deBruijn64tab") (k := .u8) (zs := Go.Lib.deBruijn64tab.map fun n : Nat => (n : Int)) (g := 7) (t := 233) (e := 5) (n := 64) (by kernel_rfl) (by kernel_rfl) Tryz.underlying233 Tryz.underlying5 (by kernel_rfl) (by kernel_rfl) (by rw [← show (Rows.laid_math_bits_deBruijn64tab : DataW Unit) = Go.Lib.tabData .u8 (Go.Lib.deBruijn64tab.map fun n : Nat => (n : Int)) by kernel_rfl]; exact hL0.tail),
      (by
      obtain ⟨q0, _, hv0, _⟩ := laid_sentinel (P := Tryz.prog) hL0.tail.tail.tail.tail.tail (g := 4) (ti := 131) (tp := 229) (te := 231) (ts := 9) (by kernel_rfl) (by kernel_rfl) Tryz.underlying131 (fun _ hu => errT_row hu) Tryz.underlying229 Tryz.underlying231 rfl rfl Tryz.underlying9 (by kernel_rfl) (by kernel_rfl)
      exact ⟨_, World.var?_cell (by kernel_rfl) hv0 0, .inr ⟨_, _, rfl⟩⟩),
      (by
      obtain ⟨q0, _, hv0, _⟩ := laid_sentinel (P := Tryz.prog) hL0.tail.tail.tail.tail (g := 5) (ti := 131) (tp := 229) (te := 231) (ts := 9) (by kernel_rfl) (by kernel_rfl) Tryz.underlying131 (fun _ hu => errT_row hu) Tryz.underlying229 Tryz.underlying231 rfl rfl Tryz.underlying9 (by kernel_rfl) (by kernel_rfl)
      exact ⟨_, World.var?_cell (by kernel_rfl) hv0 0, .inr ⟨_, _, rfl⟩⟩)⟩
  clear hA0 hval0 hsz0
  refine (law_calls ints (fun _ => rfl) (fun ls hl => ItemWholes_spec ls) W a0 len0 cap0 z0 w0 hgp).mono fun e W' ⟨he, bel⟩ => ?_
  subst he
  exact ⟨_, rfl, _, _, _, [], _, [], hW', trodAll_mk1 (shut_bool Tryz.underlying4 _), (trodAll_cons_mk (Below.trod laidOut (by kernel_rfl) (of_decide_eq_true (by kernel_rfl)) k0 bel lt0) trodAll_mk0), rfl, bel.frame _, fun h => by cases h⟩
theorem over : Rows.itemWholesRow.holds Tryz.pinned (OpenSpec.ofChange Rows.itemWholesSpec) :=
  OpenClaim.holds_of_wide 6 Tryz.f6 rfl rfl rfl rfl rfl rfl rfl ⟨rfl, rfl, rfl, rfl, rfl⟩ rfl rfl rfl rfl rfl (by kernel_rfl) Tryz.func6 (by kernel_rfl)
    (of_decide_eq_true (by kernel_rfl)) (by unfold Func.isWrapper; first | (rw [if_pos (by decide +kernel)]; kernel_rfl) | (rw [if_neg (by decide +kernel)]; exact ⟨rfl, rfl⟩))
    (fun os started H enc _ => lifted os started H enc)
theorem tied : Rows.ItemWholesCardSaid :=
  Claim7.holds_tied_plain_at .later [] [.data, .data, .data, .data, .sentinel, .sentinel, .pinned] true (true, "2ef08729cc64a743ddf0916f67cb06ad9af076b429cd5d5c90bcef1036e8136f") true
    over (fun _ h => by cases h) (by kernel_rfl) (fun _ h => by cases h) itemWholes_row_tie rfl ⟨rfl, rfl⟩ (by kernel_rfl) rfl
    (fun f fn hf hfn => by
      obtain rfl : f = 6 := Option.some.inj ((show Tryz.prog.funcNamed "paperchase/chaselaw2.ItemWholes" = some 6 by kernel_rfl).symm.trans hf) |>.symm
      obtain rfl : fn = Tryz.f6 := (Option.some.inj (Tryz.func6.symm.trans hfn)).symm
      exact ⟨by kernel_rfl, fun j t ht => by
        rw [Tryz.params6] at ht
        have hm : t ∈ [22] := by simpa using Array.mem_of_getElem? ht
        have hall : ([22].all fun u => !Tryz.prog.wantsStandIn u) = true := by kernel_rfl
        exact (show Tryz.prog.wantsStandIn t = false by simpa using List.all_eq_true.1 hall t hm)⟩)
    (by kernel_rfl)
end Go.Proofs.YtlfbfhgoehndpaaGreatDoor.itemWholes
namespace Go.Proofs.YtlfbfhgoehndpaaGreatDoor
/-- The row, under a short name, for the claim. -/
theorem itemWholes_holds : Rows.ItemWholesCardSaid := itemWholes.tied
#print axioms itemWholes_holds
end Go.Proofs.YtlfbfhgoehndpaaGreatDoor
