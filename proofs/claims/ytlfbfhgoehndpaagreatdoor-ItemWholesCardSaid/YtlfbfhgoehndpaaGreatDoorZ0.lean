/- From a contract to a call of the law. -/
import Derived.Test.YtlfbfhgoehndpaaGreatDoorHU
import Derived.Test.YtlfbfhgoehndpaaGreatDoorProg
import Derived.Shelf.Lays
import Derived.Test.YtlfbfhgoehndpaaGreatDoorHB
import Derived.Test.YtlfbfhgoehndpaaGreatDoorHV
import Derived.Shelf.Strings.SlTrimAscii
import Derived.Shelf.Strings.Fields
import Derived.Shelf.Strings.Split
import Derived.Shelf.LaysM
import Derived.Shelf.Strings.OnBuilder
import Derived.Shelf.Strings.Search2
import Derived.Shelf.Strconv.Clone
import Derived.Shelf.Strings.Repeat
import Derived.Shelf.Unicode.ValidAny
import Derived.Shelf.Lays7
import Derived.Shelf.Spec.TrailingZeros
import Derived.Shelf.LaysC
import Derived.Shelf.Strconv.ToError
import Derived.Shelf.Strconv.ToErrorRange
import Derived.Shelf.SlLaysZ
import Derived.Shelf.SlLaysM
import Derived.Test.YtlfbfhgoehndpaaGreatDoorHW
import Derived.Shelf.Small.Bits
import Derived.WalkKit
set_option linter.unusedVariables false
set_option maxRecDepth 100000
set_option linter.unusedSimpArgs false
namespace Go.Pv

/-- A slice of ints, as the row reads it. -/
def IsRow (k : IntKind) (w : World) (a : Option Addr) (len cap : Nat) (zs : List Int) : Prop :=
  (a = none ∧ len = 0 ∧ cap = 0 ∧ zs = []) ∨
  ∃ x, a = some x ∧ len ≤ cap ∧ cap ≤ maxLen ∧ zs.length = cap ∧ (∀ i, i < zs.length → w.cell? (x.add i) = some (.int k (zs.getD i 0))) ∧ ∀ n ∈ zs, (Lit.int k n).wf = true

theorem law_calls {P : Program} {f : FuncId} (m : List Int → MV) (hm : ∀ l, m l = .list (l.map fun x => [.int .i64 x])) (h : ∀ ls : List Int, ls.length ≤ maxLen → SpecB P f [m ls] [] [.bool true] []) (w : World) (a : Option Addr) (len cap : Nat) (zs : List Int) (hw : IsRow .i64 w a len cap zs) (hg : GP w) :
    Calls P f #[.slice a len cap] w fun e w' => e = .returned (.bool true) ∧ Go.RowKit.Below w.heap.size w w' := by
  have hlen : (zs.take len).length = len ∧ len ≤ maxLen := by
    rcases hw with ⟨rfl, rfl, rfl, rfl⟩ | ⟨x, rfl, h1, h2, h3, _, _⟩
    · exact ⟨rfl, Nat.zero_le _⟩
    · exact ⟨by rw [List.length_take]; omega, by omega⟩
  have hrep : Rep [] (fun _ => none) w (m (zs.take len)) (.slice a len cap) := by
    rw [hm]
    rcases hw with ⟨rfl, rfl, rfl, rfl⟩ | ⟨x, rfl, h1, h2, h3, h4, _⟩
    · exact Rep.list0 none 0
    · by_cases h0 : len = 0
      · subst h0; exact Rep.list0 _ _
      · have c0 := h4 0 (by omega)
        obtain ⟨b, o, sp⟩ := x
        have hsp : sp = none := by
          simp only [Addr.add, if_true] at c0
          unfold World.cell? at c0
          split at c0
          · split at c0
            · exact absurd c0 (by simp)
            · rename_i hs; cases sp with
              | none => rfl
              | some _ => simp at hs
          · exact absurd c0 (by simp)
        subst hsp
        have hl : ((zs.take len).map fun x => [MV.int .i64 x]).length = len := by rw [List.length_map]; exact hlen.1
        have key : Rep [] (fun _ => none) w (.list ((zs.take len).map fun x => [MV.int .i64 x])) (.slice (some ⟨b, o, none⟩) ((zs.take len).map fun x => [MV.int .i64 x]).length cap) := by
          refine .list _ 1 b o cap (fun j _ => .int .i64 (zs.getD j 0)) (by omega) rfl ?_ ?_ (fun e he => by obtain ⟨y, _, rfl⟩ := List.mem_map.1 he; rfl) ?_ ?_
          · have := h4 0 (by omega)
            rw [Addr.add_lit] at this
            exact World.block_lt_of_cell? w _ this
          · intro e he
            obtain ⟨y, _, rfl⟩ := List.mem_map.1 he
            rfl
          · intro j e hj i c hi
            rw [List.getElem?_map] at hj
            cases hq : (zs.take len)[j]? with
            | none => rw [hq] at hj; simp at hj
            | some y =>
              rw [hq] at hj
              simp only [Option.map_some, Option.some.injEq] at hj
              subst hj
              have hjl := (List.getElem?_eq_some_iff.1 hq).1
              rw [hlen.1] at hjl
              cases i with
              | succ i => simp at hi
              | zero =>
                refine ⟨?_, rfl⟩
                have := h4 j (by omega)
                rw [Addr.add_lit] at this
                rw [← this]
                simp
          · intro j e hj i c hi
            rw [List.getElem?_map] at hj
            cases hq : (zs.take len)[j]? with
            | none => rw [hq] at hj; simp at hj
            | some y =>
              rw [hq] at hj
              simp only [Option.map_some, Option.some.injEq] at hj
              subst hj
              have hjl := (List.getElem?_eq_some_iff.1 hq).1
              rw [hlen.1] at hjl
              cases i with
              | succ i => simp at hi
              | zero =>
                simp only [List.getElem?_cons_zero, Option.some.injEq] at hi
                subst hi
                have : zs.getD j 0 = y := by
                  rw [List.getElem?_take, if_pos hjl] at hq
                  simp [List.getD, hq]
                rw [this]
                exact .int _ _
        rw [hl] at key
        exact key
  have hc := (h (zs.take len) (by rw [hlen.1]; exact hlen.2)).2 [] (fun _ => none) w [.slice a len cap] rfl (fun i c v hi hv => by
    cases i with
    | zero =>
      simp only [List.getElem?_cons_zero, Option.some.injEq] at hi hv
      subst hi; subst hv; exact hrep
    | succ i => simp at hi) (fun _ _ => rfl) ⟨w, hg, fun _ _ => ⟨rfl, rfl⟩⟩ rfl (fun b k p hb => by simp at hb) (fun k o hk => by simp at hk)
  refine Calls.mono hc ?_
  rintro e w' ⟨v, γ', ω', rfl, hch, _, _, _, _, hres, _⟩
  have hv : v = .bool true := by
    have : Rep γ' ω' w' (.bool true) v := hres
    cases this; rfl
  subst hv
  exact ⟨rfl, ⟨hch.os, hch.tape, hch.output, hch.size, fun k hk => (hch.none k hk rfl).1⟩⟩

end Go.Pv
/- What the shelf's contracts need of this program. Printed by lay.py. -/
namespace Go.Proofs
open Go.Shelf
def sh160_ren : Go.Shelf.Ren := ⟨fun | 160 => 99 | 232 => 128 | 231 => 127 | 227 => 129 | 234 => 131 | 233 => 130 | 236 => 133 | 235 => 132 | 228 => 162 | 271 => 165 | 151 => 164 | 197 => 163 | 120 => 184 | 152 => 183 | 260 => 182 | 137 => 201 | 119 => 202 | 224 => 187 | 225 => 186 | 217 => 185 | 266 => 203 | n => n, fun | 9 => 9 | 4 => 4 | 3 => 3 | 5 => 5 | 117 => 168 | 116 => 167 | 0 => 0 | 124 => 171 | 21 => 21 | 105 => 193 | 46 => 122 | 119 => 161 | 139 => 164 | 138 => 163 | n => n, fun | 3 => 0 | 4 => 1 | n => n⟩
theorem sh160 : Lays.n160 Tryz.prog sh160_ren where
  mixed := by kernel_rfl
  f119 := Tryz.func202.trans (congrArg some (by kernel_rfl))
  f120 := Tryz.func184.trans (congrArg some (by kernel_rfl))
  f137 := Tryz.func201.trans (congrArg some (by kernel_rfl))
  f151 := Tryz.func164.trans (congrArg some (by kernel_rfl))
  f152 := Tryz.func183.trans (congrArg some (by kernel_rfl))
  f160 := Tryz.func99.trans (congrArg some (by kernel_rfl))
  f197 := Tryz.func163.trans (congrArg some (by kernel_rfl))
  f217 := Tryz.func185.trans (congrArg some (by kernel_rfl))
  f224 := Tryz.func187.trans (congrArg some (by kernel_rfl))
  f225 := Tryz.func186.trans (congrArg some (by kernel_rfl))
  f227 := Tryz.func129.trans (congrArg some (by kernel_rfl))
  f228 := Tryz.func162.trans (congrArg some (by kernel_rfl))
  f231 := Tryz.func127.trans (congrArg some (by kernel_rfl))
  f232 := Tryz.func128.trans (congrArg some (by kernel_rfl))
  f233 := Tryz.func130.trans (congrArg some (by kernel_rfl))
  f234 := Tryz.func131.trans (congrArg some (by kernel_rfl))
  f235 := Tryz.func132.trans (congrArg some (by kernel_rfl))
  f236 := Tryz.func133.trans (congrArg some (by kernel_rfl))
  f260 := Tryz.func182.trans (congrArg some (by kernel_rfl))
  f266 := Tryz.func203.trans (congrArg some (by kernel_rfl))
  f271 := Tryz.func165.trans (congrArg some (by kernel_rfl))
  t0 := Tryz.underlying0
  a0 := Tryz.isAgg0
  z0 := Tryz.sizeOf0
  v0 := Tryz.zeroValue0
  t3 := Tryz.underlying3
  a3 := Tryz.isAgg3
  z3 := Tryz.sizeOf3
  v3 := Tryz.zeroValue3
  t4 := Tryz.underlying4
  a4 := Tryz.isAgg4
  z4 := Tryz.sizeOf4
  v4 := Tryz.zeroValue4
  t5 := Tryz.underlying5
  a5 := Tryz.isAgg5
  z5 := Tryz.sizeOf5
  v5 := Tryz.zeroValue5
  t9 := Tryz.underlying9
  a9 := Tryz.isAgg9
  z9 := Tryz.sizeOf9
  v9 := Tryz.zeroValue9
  t21 := Tryz.underlying21
  a21 := Tryz.isAgg21
  z21 := Tryz.sizeOf21
  v21 := Tryz.zeroValue21
  t46 := Tryz.underlying122
  a46 := Tryz.isAgg122
  z46 := Tryz.sizeOf122
  v46 := Tryz.zeroValue122
  t105 := Tryz.underlying193
  a105 := Tryz.isAgg193
  z105 := Tryz.sizeOf193
  v105 := Tryz.zeroValue193
  t116 := Tryz.underlying167
  a116 := Tryz.isAgg167
  z116 := Tryz.sizeOf167
  t117 := Tryz.underlying168
  a117 := Tryz.isAgg168
  z117 := Tryz.sizeOf168
  v117 := Tryz.zeroValue168
  t119 := Tryz.underlying161
  a119 := Tryz.isAgg161
  z119 := Tryz.sizeOf161
  t124 := Tryz.underlying171
  a124 := Tryz.isAgg171
  z124 := Tryz.sizeOf171
  v124 := Tryz.zeroValue171
  t138 := Tryz.underlying163
  a138 := Tryz.isAgg163
  z138 := Tryz.sizeOf163
  v138 := Tryz.zeroValue163
  t139 := Tryz.underlying164
  a139 := Tryz.isAgg164
  z139 := Tryz.sizeOf164
  v139 := Tryz.zeroValue164
  g3 := by kernel_rfl
  g4 := by kernel_rfl
end Go.Proofs
namespace Go.Pv
open Go Go.Proofs
theorem ti1 : tiOf Tryz.prog 1 = some { kd := TK.func, size := 1, bytes := 8, zero := [MV.nilfn] } := by kernel_rfl
theorem ti2 : tiOf Tryz.prog 2 = some { kd := TK.int IntKind.i64, size := 1, bytes := 8, zero := [MV.int IntKind.i64 0] } := by kernel_rfl
theorem ti3 : tiOf Tryz.prog 3 = some { kd := TK.int IntKind.i64, size := 1, bytes := 8, zero := [MV.int IntKind.i64 0] } := by kernel_rfl
theorem ti4 : tiOf Tryz.prog 4 = some { kd := TK.bool, size := 1, bytes := 1, zero := [MV.bool false] } := by kernel_rfl
theorem ti5 : tiOf Tryz.prog 5 = some { kd := TK.int IntKind.u8, size := 1, bytes := 1, zero := [MV.int IntKind.u8 0] } := by kernel_rfl
theorem ti6 : tiOf Tryz.prog 6 = some { kd := TK.int IntKind.u8, size := 1, bytes := 1, zero := [MV.int IntKind.u8 0] } := by kernel_rfl
theorem ti7 : tiOf Tryz.prog 7 = some { kd := TK.strct [(0, 2), (1, 3), (2, 4), (3, 6)], size := 4, bytes := 24, zero := [MV.int IntKind.i64 0, MV.int IntKind.i64 0, MV.bool false, MV.int IntKind.u8 0] } := by kernel_rfl
theorem ti8 : tiOf Tryz.prog 8 = some { kd := TK.strct [(0, 2), (1, 3), (2, 4), (3, 6)], size := 4, bytes := 24, zero := [MV.int IntKind.i64 0, MV.int IntKind.i64 0, MV.bool false, MV.int IntKind.u8 0] } := by kernel_rfl
theorem ti9 : tiOf Tryz.prog 9 = some { kd := TK.str, size := 1, bytes := 16, zero := [MV.str ByteArray.empty] } := by kernel_rfl
theorem ti10 : tiOf Tryz.prog 10 = some { kd := TK.str, size := 1, bytes := 16, zero := [MV.str ByteArray.empty] } := by kernel_rfl
theorem ti11 : tiOf Tryz.prog 11 = some { kd := TK.str, size := 1, bytes := 16, zero := [MV.str ByteArray.empty] } := by kernel_rfl
theorem ti12 : tiOf Tryz.prog 12 = some { kd := TK.int IntKind.u64, size := 1, bytes := 8, zero := [MV.int IntKind.u64 0] } := by kernel_rfl
theorem ti13 : tiOf Tryz.prog 13 = some { kd := TK.strct [(0, 9), (1, 12)], size := 2, bytes := 24, zero := [MV.str ByteArray.empty, MV.int IntKind.u64 0] } := by kernel_rfl
theorem ti14 : tiOf Tryz.prog 14 = some { kd := TK.strct [(0, 9), (1, 12)], size := 2, bytes := 24, zero := [MV.str ByteArray.empty, MV.int IntKind.u64 0] } := by kernel_rfl
theorem ti15 : tiOf Tryz.prog 15 = some { kd := TK.ptr 236, size := 1, bytes := 8, zero := [MV.nilptr] } := by kernel_rfl
theorem ti16 : tiOf Tryz.prog 16 = some { kd := TK.ptr 239, size := 1, bytes := 8, zero := [MV.nilptr] } := by kernel_rfl
theorem ti17 : tiOf Tryz.prog 17 = some { kd := TK.ptr 246, size := 1, bytes := 8, zero := [MV.nilptr] } := by kernel_rfl
theorem ti18 : tiOf Tryz.prog 18 = some { kd := TK.strct [(0, 17)], size := 1, bytes := 8, zero := [MV.nilptr] } := by kernel_rfl
theorem ti19 : tiOf Tryz.prog 19 = some { kd := TK.strct [(0, 17)], size := 1, bytes := 8, zero := [MV.nilptr] } := by kernel_rfl
theorem ti20 : tiOf Tryz.prog 20 = some { kd := TK.iface, size := 1, bytes := 16, zero := [MV.nilifc] } := by kernel_rfl
theorem ti21 : tiOf Tryz.prog 21 = some { kd := TK.int IntKind.i32, size := 1, bytes := 4, zero := [MV.int IntKind.i32 0] } := by kernel_rfl
theorem ti22 : tiOf Tryz.prog 22 = some { kd := TK.slice 3, size := 1, bytes := 24, zero := [MV.nil] } := by kernel_rfl
theorem ti23 : tiOf Tryz.prog 23 = some { kd := TK.ptr 25, size := 1, bytes := 8, zero := [MV.nilptr] } := by kernel_rfl
theorem ti24 : tiOf Tryz.prog 24 = some { kd := TK.strct [(0, 22), (1, 3)], size := 2, bytes := 32, zero := [MV.nil, MV.int IntKind.i64 0] } := by kernel_rfl
theorem ti25 : tiOf Tryz.prog 25 = some { kd := TK.strct [(0, 22), (1, 3)], size := 2, bytes := 32, zero := [MV.nil, MV.int IntKind.i64 0] } := by kernel_rfl
theorem ti26 : tiOf Tryz.prog 26 = some { kd := TK.slice 30, size := 1, bytes := 24, zero := [MV.nil] } := by kernel_rfl
theorem ti27 : tiOf Tryz.prog 27 = some { kd := TK.func, size := 1, bytes := 8, zero := [MV.nilfn] } := by kernel_rfl
theorem ti28 : tiOf Tryz.prog 28 = some { kd := TK.func, size := 1, bytes := 8, zero := [MV.nilfn] } := by kernel_rfl
theorem ti29 : tiOf Tryz.prog 29 = some { kd := TK.strct [(0, 9), (1, 9), (2, 3), (3, 9), (4, 3), (5, 9), (6, 9)], size := 7, bytes := 96, zero := [MV.str ByteArray.empty, MV.str ByteArray.empty, MV.int IntKind.i64 0, MV.str ByteArray.empty, MV.int IntKind.i64 0, MV.str ByteArray.empty, MV.str ByteArray.empty] } := by kernel_rfl
theorem ti30 : tiOf Tryz.prog 30 = some { kd := TK.strct [(0, 9), (1, 9), (2, 3), (3, 9), (4, 3), (5, 9), (6, 9)], size := 7, bytes := 96, zero := [MV.str ByteArray.empty, MV.str ByteArray.empty, MV.int IntKind.i64 0, MV.str ByteArray.empty, MV.int IntKind.i64 0, MV.str ByteArray.empty, MV.str ByteArray.empty] } := by kernel_rfl
theorem ti31 : tiOf Tryz.prog 31 = some { kd := TK.func, size := 1, bytes := 8, zero := [MV.nilfn] } := by kernel_rfl
theorem ti32 : tiOf Tryz.prog 32 = some { kd := TK.int IntKind.i64, size := 1, bytes := 8, zero := [MV.int IntKind.i64 0] } := by kernel_rfl
theorem ti34 : tiOf Tryz.prog 34 = some { kd := TK.func, size := 1, bytes := 8, zero := [MV.nilfn] } := by kernel_rfl
theorem ti35 : tiOf Tryz.prog 35 = some { kd := TK.func, size := 1, bytes := 8, zero := [MV.nilfn] } := by kernel_rfl
theorem ti36 : tiOf Tryz.prog 36 = some { kd := TK.func, size := 1, bytes := 8, zero := [MV.nilfn] } := by kernel_rfl
theorem ti37 : tiOf Tryz.prog 37 = some { kd := TK.func, size := 1, bytes := 8, zero := [MV.nilfn] } := by kernel_rfl
theorem ti38 : tiOf Tryz.prog 38 = some { kd := TK.func, size := 1, bytes := 8, zero := [MV.nilfn] } := by kernel_rfl
theorem ti39 : tiOf Tryz.prog 39 = some { kd := TK.func, size := 1, bytes := 8, zero := [MV.nilfn] } := by kernel_rfl
theorem ti40 : tiOf Tryz.prog 40 = some { kd := TK.slice 93, size := 1, bytes := 24, zero := [MV.nil] } := by kernel_rfl
theorem ti41 : tiOf Tryz.prog 41 = some { kd := TK.func, size := 1, bytes := 8, zero := [MV.nilfn] } := by kernel_rfl
theorem ti42 : tiOf Tryz.prog 42 = some { kd := TK.slice 9, size := 1, bytes := 24, zero := [MV.nil] } := by kernel_rfl
theorem ti43 : tiOf Tryz.prog 43 = some { kd := TK.func, size := 1, bytes := 8, zero := [MV.nilfn] } := by kernel_rfl
theorem ti44 : tiOf Tryz.prog 44 = some { kd := TK.func, size := 1, bytes := 8, zero := [MV.nilfn] } := by kernel_rfl
theorem ti45 : tiOf Tryz.prog 45 = some { kd := TK.func, size := 1, bytes := 8, zero := [MV.nilfn] } := by kernel_rfl
theorem ti47 : tiOf Tryz.prog 47 = some { kd := TK.func, size := 1, bytes := 8, zero := [MV.nilfn] } := by kernel_rfl
theorem ti48 : tiOf Tryz.prog 48 = some { kd := TK.func, size := 1, bytes := 8, zero := [MV.nilfn] } := by kernel_rfl
theorem ti49 : tiOf Tryz.prog 49 = some { kd := TK.func, size := 1, bytes := 8, zero := [MV.nilfn] } := by kernel_rfl
theorem ti50 : tiOf Tryz.prog 50 = some { kd := TK.func, size := 1, bytes := 8, zero := [MV.nilfn] } := by kernel_rfl
theorem ti51 : tiOf Tryz.prog 51 = some { kd := TK.func, size := 1, bytes := 8, zero := [MV.nilfn] } := by kernel_rfl
theorem ti52 : tiOf Tryz.prog 52 = some { kd := TK.func, size := 1, bytes := 8, zero := [MV.nilfn] } := by kernel_rfl
theorem ti53 : tiOf Tryz.prog 53 = some { kd := TK.func, size := 1, bytes := 8, zero := [MV.nilfn] } := by kernel_rfl
theorem ti54 : tiOf Tryz.prog 54 = some { kd := TK.slice 59, size := 1, bytes := 24, zero := [MV.nil] } := by kernel_rfl
theorem ti56 : tiOf Tryz.prog 56 = some { kd := TK.func, size := 1, bytes := 8, zero := [MV.nilfn] } := by kernel_rfl
theorem ti57 : tiOf Tryz.prog 57 = some { kd := TK.func, size := 1, bytes := 8, zero := [MV.nilfn] } := by kernel_rfl
theorem ti58 : tiOf Tryz.prog 58 = some { kd := TK.strct [(0, 9), (1, 42)], size := 2, bytes := 40, zero := [MV.str ByteArray.empty, MV.nil] } := by kernel_rfl
theorem ti59 : tiOf Tryz.prog 59 = some { kd := TK.strct [(0, 9), (1, 42)], size := 2, bytes := 40, zero := [MV.str ByteArray.empty, MV.nil] } := by kernel_rfl
theorem ti60 : tiOf Tryz.prog 60 = some { kd := TK.func, size := 1, bytes := 8, zero := [MV.nilfn] } := by kernel_rfl
theorem ti61 : tiOf Tryz.prog 61 = some { kd := TK.func, size := 1, bytes := 8, zero := [MV.nilfn] } := by kernel_rfl
theorem ti62 : tiOf Tryz.prog 62 = some { kd := TK.func, size := 1, bytes := 8, zero := [MV.nilfn] } := by kernel_rfl
theorem ti63 : tiOf Tryz.prog 63 = some { kd := TK.func, size := 1, bytes := 8, zero := [MV.nilfn] } := by kernel_rfl
theorem ti64 : tiOf Tryz.prog 64 = some { kd := TK.func, size := 1, bytes := 8, zero := [MV.nilfn] } := by kernel_rfl
theorem ti65 : tiOf Tryz.prog 65 = some { kd := TK.func, size := 1, bytes := 8, zero := [MV.nilfn] } := by kernel_rfl
theorem ti67 : tiOf Tryz.prog 67 = some { kd := TK.func, size := 1, bytes := 8, zero := [MV.nilfn] } := by kernel_rfl
theorem ti68 : tiOf Tryz.prog 68 = some { kd := TK.func, size := 1, bytes := 8, zero := [MV.nilfn] } := by kernel_rfl
theorem ti70 : tiOf Tryz.prog 70 = some { kd := TK.func, size := 1, bytes := 8, zero := [MV.nilfn] } := by kernel_rfl
theorem ti71 : tiOf Tryz.prog 71 = some { kd := TK.func, size := 1, bytes := 8, zero := [MV.nilfn] } := by kernel_rfl
theorem ti72 : tiOf Tryz.prog 72 = some { kd := TK.func, size := 1, bytes := 8, zero := [MV.nilfn] } := by kernel_rfl
theorem ti73 : tiOf Tryz.prog 73 = some { kd := TK.func, size := 1, bytes := 8, zero := [MV.nilfn] } := by kernel_rfl
theorem ti74 : tiOf Tryz.prog 74 = some { kd := TK.func, size := 1, bytes := 8, zero := [MV.nilfn] } := by kernel_rfl
theorem ti75 : tiOf Tryz.prog 75 = some { kd := TK.func, size := 1, bytes := 8, zero := [MV.nilfn] } := by kernel_rfl
theorem ti76 : tiOf Tryz.prog 76 = some { kd := TK.func, size := 1, bytes := 8, zero := [MV.nilfn] } := by kernel_rfl
theorem ti77 : tiOf Tryz.prog 77 = some { kd := TK.func, size := 1, bytes := 8, zero := [MV.nilfn] } := by kernel_rfl
theorem ti78 : tiOf Tryz.prog 78 = some { kd := TK.func, size := 1, bytes := 8, zero := [MV.nilfn] } := by kernel_rfl
theorem ti79 : tiOf Tryz.prog 79 = some { kd := TK.func, size := 1, bytes := 8, zero := [MV.nilfn] } := by kernel_rfl
theorem ti80 : tiOf Tryz.prog 80 = some { kd := TK.func, size := 1, bytes := 8, zero := [MV.nilfn] } := by kernel_rfl
theorem ti81 : tiOf Tryz.prog 81 = some { kd := TK.func, size := 1, bytes := 8, zero := [MV.nilfn] } := by kernel_rfl
theorem ti82 : tiOf Tryz.prog 82 = some { kd := TK.func, size := 1, bytes := 8, zero := [MV.nilfn] } := by kernel_rfl
theorem ti83 : tiOf Tryz.prog 83 = some { kd := TK.map 9 30, size := 1, bytes := 8, zero := [MV.map []] } := by kernel_rfl
theorem ti84 : tiOf Tryz.prog 84 = some { kd := TK.func, size := 1, bytes := 8, zero := [MV.nilfn] } := by kernel_rfl
theorem ti87 : tiOf Tryz.prog 87 = some { kd := TK.func, size := 1, bytes := 8, zero := [MV.nilfn] } := by kernel_rfl
theorem ti88 : tiOf Tryz.prog 88 = some { kd := TK.func, size := 1, bytes := 8, zero := [MV.nilfn] } := by kernel_rfl
theorem ti90 : tiOf Tryz.prog 90 = some { kd := TK.func, size := 1, bytes := 8, zero := [MV.nilfn] } := by kernel_rfl
theorem ti91 : tiOf Tryz.prog 91 = some { kd := TK.map 9 9, size := 1, bytes := 8, zero := [MV.map []] } := by kernel_rfl
theorem ti92 : tiOf Tryz.prog 92 = some { kd := TK.strct [(0, 3), (1, 3), (2, 9), (3, 9), (4, 9)], size := 5, bytes := 64, zero := [MV.int IntKind.i64 0, MV.int IntKind.i64 0, MV.str ByteArray.empty, MV.str ByteArray.empty, MV.str ByteArray.empty] } := by kernel_rfl
theorem ti93 : tiOf Tryz.prog 93 = some { kd := TK.strct [(0, 3), (1, 3), (2, 9), (3, 9), (4, 9)], size := 5, bytes := 64, zero := [MV.int IntKind.i64 0, MV.int IntKind.i64 0, MV.str ByteArray.empty, MV.str ByteArray.empty, MV.str ByteArray.empty] } := by kernel_rfl
theorem ti94 : tiOf Tryz.prog 94 = some { kd := TK.func, size := 1, bytes := 8, zero := [MV.nilfn] } := by kernel_rfl
theorem ti95 : tiOf Tryz.prog 95 = some { kd := TK.func, size := 1, bytes := 8, zero := [MV.nilfn] } := by kernel_rfl
theorem ti96 : tiOf Tryz.prog 96 = some { kd := TK.func, size := 1, bytes := 8, zero := [MV.nilfn] } := by kernel_rfl
theorem ti97 : tiOf Tryz.prog 97 = some { kd := TK.func, size := 1, bytes := 8, zero := [MV.nilfn] } := by kernel_rfl
theorem ti98 : tiOf Tryz.prog 98 = some { kd := TK.func, size := 1, bytes := 8, zero := [MV.nilfn] } := by kernel_rfl
theorem ti99 : tiOf Tryz.prog 99 = some { kd := TK.func, size := 1, bytes := 8, zero := [MV.nilfn] } := by kernel_rfl
theorem ti100 : tiOf Tryz.prog 100 = some { kd := TK.func, size := 1, bytes := 8, zero := [MV.nilfn] } := by kernel_rfl
theorem ti101 : tiOf Tryz.prog 101 = some { kd := TK.func, size := 1, bytes := 8, zero := [MV.nilfn] } := by kernel_rfl
theorem ti102 : tiOf Tryz.prog 102 = some { kd := TK.func, size := 1, bytes := 8, zero := [MV.nilfn] } := by kernel_rfl
theorem ti103 : tiOf Tryz.prog 103 = some { kd := TK.func, size := 1, bytes := 8, zero := [MV.nilfn] } := by kernel_rfl
theorem ti104 : tiOf Tryz.prog 104 = some { kd := TK.func, size := 1, bytes := 8, zero := [MV.nilfn] } := by kernel_rfl
theorem ti105 : tiOf Tryz.prog 105 = some { kd := TK.map 9 42, size := 1, bytes := 8, zero := [MV.map []] } := by kernel_rfl
theorem ti106 : tiOf Tryz.prog 106 = some { kd := TK.strct [(0, 83), (1, 105), (2, 42)], size := 3, bytes := 40, zero := [MV.map [], MV.map [], MV.nil] } := by kernel_rfl
theorem ti107 : tiOf Tryz.prog 107 = some { kd := TK.strct [(0, 83), (1, 105), (2, 42)], size := 3, bytes := 40, zero := [MV.map [], MV.map [], MV.nil] } := by kernel_rfl
theorem ti108 : tiOf Tryz.prog 108 = some { kd := TK.func, size := 1, bytes := 8, zero := [MV.nilfn] } := by kernel_rfl
theorem ti109 : tiOf Tryz.prog 109 = some { kd := TK.func, size := 1, bytes := 8, zero := [MV.nilfn] } := by kernel_rfl
theorem ti111 : tiOf Tryz.prog 111 = some { kd := TK.func, size := 1, bytes := 8, zero := [MV.nilfn] } := by kernel_rfl
theorem ti112 : tiOf Tryz.prog 112 = some { kd := TK.func, size := 1, bytes := 8, zero := [MV.nilfn] } := by kernel_rfl
theorem ti113 : tiOf Tryz.prog 113 = some { kd := TK.func, size := 1, bytes := 8, zero := [MV.nilfn] } := by kernel_rfl
theorem ti114 : tiOf Tryz.prog 114 = some { kd := TK.func, size := 1, bytes := 8, zero := [MV.nilfn] } := by kernel_rfl
theorem ti115 : tiOf Tryz.prog 115 = some { kd := TK.ptr 59, size := 1, bytes := 8, zero := [MV.nilptr] } := by kernel_rfl
theorem ti116 : tiOf Tryz.prog 116 = some { kd := TK.map 9 4, size := 1, bytes := 8, zero := [MV.map []] } := by kernel_rfl
theorem ti117 : tiOf Tryz.prog 117 = some { kd := TK.func, size := 1, bytes := 8, zero := [MV.nilfn] } := by kernel_rfl
theorem ti118 : tiOf Tryz.prog 118 = some { kd := TK.func, size := 1, bytes := 8, zero := [MV.nilfn] } := by kernel_rfl
theorem ti119 : tiOf Tryz.prog 119 = some { kd := TK.func, size := 1, bytes := 8, zero := [MV.nilfn] } := by kernel_rfl
theorem ti121 : tiOf Tryz.prog 121 = some { kd := TK.func, size := 1, bytes := 8, zero := [MV.nilfn] } := by kernel_rfl
theorem ti122 : tiOf Tryz.prog 122 = some { kd := TK.int IntKind.u64, size := 1, bytes := 8, zero := [MV.int IntKind.u64 0] } := by kernel_rfl
theorem ti124 : tiOf Tryz.prog 124 = some { kd := TK.func, size := 1, bytes := 8, zero := [MV.nilfn] } := by kernel_rfl
theorem ti125 : tiOf Tryz.prog 125 = some { kd := TK.ptr 128, size := 1, bytes := 8, zero := [MV.nilptr] } := by kernel_rfl
theorem ti126 : tiOf Tryz.prog 126 = some { kd := TK.slice 5, size := 1, bytes := 24, zero := [MV.nil] } := by kernel_rfl
theorem ti127 : tiOf Tryz.prog 127 = some { kd := TK.strct [(0, 125), (1, 126)], size := 2, bytes := 32, zero := [MV.nilptr, MV.nil] } := by kernel_rfl
theorem ti128 : tiOf Tryz.prog 128 = some { kd := TK.strct [(0, 125), (1, 126)], size := 2, bytes := 32, zero := [MV.nilptr, MV.nil] } := by kernel_rfl
theorem ti129 : tiOf Tryz.prog 129 = some { kd := TK.func, size := 1, bytes := 8, zero := [MV.nilfn] } := by kernel_rfl
theorem ti130 : tiOf Tryz.prog 130 = some { kd := TK.iface, size := 1, bytes := 16, zero := [MV.nilifc] } := by kernel_rfl
theorem ti131 : tiOf Tryz.prog 131 = some { kd := TK.iface, size := 1, bytes := 16, zero := [MV.nilifc] } := by kernel_rfl
theorem ti133 : tiOf Tryz.prog 133 = some { kd := TK.func, size := 1, bytes := 8, zero := [MV.nilfn] } := by kernel_rfl
theorem ti134 : tiOf Tryz.prog 134 = some { kd := TK.func, size := 1, bytes := 8, zero := [MV.nilfn] } := by kernel_rfl
theorem ti135 : tiOf Tryz.prog 135 = some { kd := TK.func, size := 1, bytes := 8, zero := [MV.nilfn] } := by kernel_rfl
theorem ti136 : tiOf Tryz.prog 136 = some { kd := TK.func, size := 1, bytes := 8, zero := [MV.nilfn] } := by kernel_rfl
theorem ti137 : tiOf Tryz.prog 137 = some { kd := TK.func, size := 1, bytes := 8, zero := [MV.nilfn] } := by kernel_rfl
theorem ti138 : tiOf Tryz.prog 138 = some { kd := TK.int IntKind.u64, size := 1, bytes := 8, zero := [MV.int IntKind.u64 0] } := by kernel_rfl
theorem ti139 : tiOf Tryz.prog 139 = some { kd := TK.arr 5 9, size := 5, bytes := 80, zero := [MV.str ByteArray.empty, MV.str ByteArray.empty, MV.str ByteArray.empty, MV.str ByteArray.empty, MV.str ByteArray.empty] } := by kernel_rfl
theorem ti140 : tiOf Tryz.prog 140 = some { kd := TK.slice 32, size := 1, bytes := 24, zero := [MV.nil] } := by kernel_rfl
theorem ti141 : tiOf Tryz.prog 141 = some { kd := TK.func, size := 1, bytes := 8, zero := [MV.nilfn] } := by kernel_rfl
theorem ti142 : tiOf Tryz.prog 142 = some { kd := TK.func, size := 1, bytes := 8, zero := [MV.nilfn] } := by kernel_rfl
theorem ti144 : tiOf Tryz.prog 144 = some { kd := TK.func, size := 1, bytes := 8, zero := [MV.nilfn] } := by kernel_rfl
theorem ti145 : tiOf Tryz.prog 145 = some { kd := TK.func, size := 1, bytes := 8, zero := [MV.nilfn] } := by kernel_rfl
theorem ti146 : tiOf Tryz.prog 146 = some { kd := TK.func, size := 1, bytes := 8, zero := [MV.nilfn] } := by kernel_rfl
theorem ti147 : tiOf Tryz.prog 147 = some { kd := TK.func, size := 1, bytes := 8, zero := [MV.nilfn] } := by kernel_rfl
theorem ti148 : tiOf Tryz.prog 148 = some { kd := TK.func, size := 1, bytes := 8, zero := [MV.nilfn] } := by kernel_rfl
theorem ti149 : tiOf Tryz.prog 149 = some { kd := TK.func, size := 1, bytes := 8, zero := [MV.nilfn] } := by kernel_rfl
theorem ti150 : tiOf Tryz.prog 150 = some { kd := TK.func, size := 1, bytes := 8, zero := [MV.nilfn] } := by kernel_rfl
theorem ti151 : tiOf Tryz.prog 151 = some { kd := TK.func, size := 1, bytes := 8, zero := [MV.nilfn] } := by kernel_rfl
theorem ti152 : tiOf Tryz.prog 152 = some { kd := TK.func, size := 1, bytes := 8, zero := [MV.nilfn] } := by kernel_rfl
theorem ti153 : tiOf Tryz.prog 153 = some { kd := TK.func, size := 1, bytes := 8, zero := [MV.nilfn] } := by kernel_rfl
theorem ti154 : tiOf Tryz.prog 154 = some { kd := TK.int IntKind.u32, size := 1, bytes := 4, zero := [MV.int IntKind.u32 0] } := by kernel_rfl
theorem ti156 : tiOf Tryz.prog 156 = some { kd := TK.func, size := 1, bytes := 8, zero := [MV.nilfn] } := by kernel_rfl
theorem ti158 : tiOf Tryz.prog 158 = some { kd := TK.func, size := 1, bytes := 8, zero := [MV.nilfn] } := by kernel_rfl
theorem ti159 : tiOf Tryz.prog 159 = some { kd := TK.ptr 5, size := 1, bytes := 8, zero := [MV.nilptr] } := by kernel_rfl
theorem ti160 : tiOf Tryz.prog 160 = some { kd := TK.func, size := 1, bytes := 8, zero := [MV.nilfn] } := by kernel_rfl
theorem ti161 : tiOf Tryz.prog 161 = some { kd := TK.arr 256 5, size := 256, bytes := 256, zero := [MV.int IntKind.u8 0, MV.int IntKind.u8 0, MV.int IntKind.u8 0, MV.int IntKind.u8 0, MV.int IntKind.u8 0, MV.int IntKind.u8 0, MV.int IntKind.u8 0, MV.int IntKind.u8 0, MV.int IntKind.u8 0, MV.int IntKind.u8 0, MV.int IntKind.u8 0, MV.int IntKind.u8 0, MV.int IntKind.u8 0, MV.int IntKind.u8 0, MV.int IntKind.u8 0, MV.int IntKind.u8 0, MV.int IntKind.u8 0, MV.int IntKind.u8 0, MV.int IntKind.u8 0, MV.int IntKind.u8 0, MV.int IntKind.u8 0, MV.int IntKind.u8 0, MV.int IntKind.u8 0, MV.int IntKind.u8 0, MV.int IntKind.u8 0, MV.int IntKind.u8 0, MV.int IntKind.u8 0, MV.int IntKind.u8 0, MV.int IntKind.u8 0, MV.int IntKind.u8 0, MV.int IntKind.u8 0, MV.int IntKind.u8 0, MV.int IntKind.u8 0, MV.int IntKind.u8 0, MV.int IntKind.u8 0, MV.int IntKind.u8 0, MV.int IntKind.u8 0, MV.int IntKind.u8 0, MV.int IntKind.u8 0, MV.int IntKind.u8 0, MV.int IntKind.u8 0, MV.int IntKind.u8 0, MV.int IntKind.u8 0, MV.int IntKind.u8 0, MV.int IntKind.u8 0, MV.int IntKind.u8 0, MV.int IntKind.u8 0, MV.int IntKind.u8 0, MV.int IntKind.u8 0, MV.int IntKind.u8 0, MV.int IntKind.u8 0, MV.int IntKind.u8 0, MV.int IntKind.u8 0, MV.int IntKind.u8 0, MV.int IntKind.u8 0, MV.int IntKind.u8 0, MV.int IntKind.u8 0, MV.int IntKind.u8 0, MV.int IntKind.u8 0, MV.int IntKind.u8 0, MV.int IntKind.u8 0, MV.int IntKind.u8 0, MV.int IntKind.u8 0, MV.int IntKind.u8 0, MV.int IntKind.u8 0, MV.int IntKind.u8 0, MV.int IntKind.u8 0, MV.int IntKind.u8 0, MV.int IntKind.u8 0, MV.int IntKind.u8 0, MV.int IntKind.u8 0, MV.int IntKind.u8 0, MV.int IntKind.u8 0, MV.int IntKind.u8 0, MV.int IntKind.u8 0, MV.int IntKind.u8 0, MV.int IntKind.u8 0, MV.int IntKind.u8 0, MV.int IntKind.u8 0, MV.int IntKind.u8 0, MV.int IntKind.u8 0, MV.int IntKind.u8 0, MV.int IntKind.u8 0, MV.int IntKind.u8 0, MV.int IntKind.u8 0, MV.int IntKind.u8 0, MV.int IntKind.u8 0, MV.int IntKind.u8 0, MV.int IntKind.u8 0, MV.int IntKind.u8 0, MV.int IntKind.u8 0, MV.int IntKind.u8 0, MV.int IntKind.u8 0, MV.int IntKind.u8 0, MV.int IntKind.u8 0, MV.int IntKind.u8 0, MV.int IntKind.u8 0, MV.int IntKind.u8 0, MV.int IntKind.u8 0, MV.int IntKind.u8 0, MV.int IntKind.u8 0, MV.int IntKind.u8 0, MV.int IntKind.u8 0, MV.int IntKind.u8 0, MV.int IntKind.u8 0, MV.int IntKind.u8 0, MV.int IntKind.u8 0, MV.int IntKind.u8 0, MV.int IntKind.u8 0, MV.int IntKind.u8 0, MV.int IntKind.u8 0, MV.int IntKind.u8 0, MV.int IntKind.u8 0, MV.int IntKind.u8 0, MV.int IntKind.u8 0, MV.int IntKind.u8 0, MV.int IntKind.u8 0, MV.int IntKind.u8 0, MV.int IntKind.u8 0, MV.int IntKind.u8 0, MV.int IntKind.u8 0, MV.int IntKind.u8 0, MV.int IntKind.u8 0, MV.int IntKind.u8 0, MV.int IntKind.u8 0, MV.int IntKind.u8 0, MV.int IntKind.u8 0, MV.int IntKind.u8 0, MV.int IntKind.u8 0, MV.int IntKind.u8 0, MV.int IntKind.u8 0, MV.int IntKind.u8 0, MV.int IntKind.u8 0, MV.int IntKind.u8 0, MV.int IntKind.u8 0, MV.int IntKind.u8 0, MV.int IntKind.u8 0, MV.int IntKind.u8 0, MV.int IntKind.u8 0, MV.int IntKind.u8 0, MV.int IntKind.u8 0, MV.int IntKind.u8 0, MV.int IntKind.u8 0, MV.int IntKind.u8 0, MV.int IntKind.u8 0, MV.int IntKind.u8 0, MV.int IntKind.u8 0, MV.int IntKind.u8 0, MV.int IntKind.u8 0, MV.int IntKind.u8 0, MV.int IntKind.u8 0, MV.int IntKind.u8 0, MV.int IntKind.u8 0, MV.int IntKind.u8 0, MV.int IntKind.u8 0, MV.int IntKind.u8 0, MV.int IntKind.u8 0, MV.int IntKind.u8 0, MV.int IntKind.u8 0, MV.int IntKind.u8 0, MV.int IntKind.u8 0, MV.int IntKind.u8 0, MV.int IntKind.u8 0, MV.int IntKind.u8 0, MV.int IntKind.u8 0, MV.int IntKind.u8 0, MV.int IntKind.u8 0, MV.int IntKind.u8 0, MV.int IntKind.u8 0, MV.int IntKind.u8 0, MV.int IntKind.u8 0, MV.int IntKind.u8 0, MV.int IntKind.u8 0, MV.int IntKind.u8 0, MV.int IntKind.u8 0, MV.int IntKind.u8 0, MV.int IntKind.u8 0, MV.int IntKind.u8 0, MV.int IntKind.u8 0, MV.int IntKind.u8 0, MV.int IntKind.u8 0, MV.int IntKind.u8 0, MV.int IntKind.u8 0, MV.int IntKind.u8 0, MV.int IntKind.u8 0, MV.int IntKind.u8 0, MV.int IntKind.u8 0, MV.int IntKind.u8 0, MV.int IntKind.u8 0, MV.int IntKind.u8 0, MV.int IntKind.u8 0, MV.int IntKind.u8 0, MV.int IntKind.u8 0, MV.int IntKind.u8 0, MV.int IntKind.u8 0, MV.int IntKind.u8 0, MV.int IntKind.u8 0, MV.int IntKind.u8 0, MV.int IntKind.u8 0, MV.int IntKind.u8 0, MV.int IntKind.u8 0, MV.int IntKind.u8 0, MV.int IntKind.u8 0, MV.int IntKind.u8 0, MV.int IntKind.u8 0, MV.int IntKind.u8 0, MV.int IntKind.u8 0, MV.int IntKind.u8 0, MV.int IntKind.u8 0, MV.int IntKind.u8 0, MV.int IntKind.u8 0, MV.int IntKind.u8 0, MV.int IntKind.u8 0, MV.int IntKind.u8 0, MV.int IntKind.u8 0, MV.int IntKind.u8 0, MV.int IntKind.u8 0, MV.int IntKind.u8 0, MV.int IntKind.u8 0, MV.int IntKind.u8 0, MV.int IntKind.u8 0, MV.int IntKind.u8 0, MV.int IntKind.u8 0, MV.int IntKind.u8 0, MV.int IntKind.u8 0, MV.int IntKind.u8 0, MV.int IntKind.u8 0, MV.int IntKind.u8 0, MV.int IntKind.u8 0, MV.int IntKind.u8 0, MV.int IntKind.u8 0, MV.int IntKind.u8 0, MV.int IntKind.u8 0, MV.int IntKind.u8 0, MV.int IntKind.u8 0, MV.int IntKind.u8 0, MV.int IntKind.u8 0, MV.int IntKind.u8 0, MV.int IntKind.u8 0, MV.int IntKind.u8 0, MV.int IntKind.u8 0, MV.int IntKind.u8 0, MV.int IntKind.u8 0, MV.int IntKind.u8 0, MV.int IntKind.u8 0, MV.int IntKind.u8 0, MV.int IntKind.u8 0, MV.int IntKind.u8 0, MV.int IntKind.u8 0, MV.int IntKind.u8 0, MV.int IntKind.u8 0, MV.int IntKind.u8 0, MV.int IntKind.u8 0, MV.int IntKind.u8 0, MV.int IntKind.u8 0, MV.int IntKind.u8 0] } := by kernel_rfl
theorem ti162 : tiOf Tryz.prog 162 = some { kd := TK.strct [(0, 5), (1, 5)], size := 2, bytes := 2, zero := [MV.int IntKind.u8 0, MV.int IntKind.u8 0] } := by kernel_rfl
theorem ti163 : tiOf Tryz.prog 163 = some { kd := TK.strct [(0, 5), (1, 5)], size := 2, bytes := 2, zero := [MV.int IntKind.u8 0, MV.int IntKind.u8 0] } := by kernel_rfl
theorem ti164 : tiOf Tryz.prog 164 = some { kd := TK.arr 16 163, size := 32, bytes := 32, zero := [MV.int IntKind.u8 0, MV.int IntKind.u8 0, MV.int IntKind.u8 0, MV.int IntKind.u8 0, MV.int IntKind.u8 0, MV.int IntKind.u8 0, MV.int IntKind.u8 0, MV.int IntKind.u8 0, MV.int IntKind.u8 0, MV.int IntKind.u8 0, MV.int IntKind.u8 0, MV.int IntKind.u8 0, MV.int IntKind.u8 0, MV.int IntKind.u8 0, MV.int IntKind.u8 0, MV.int IntKind.u8 0, MV.int IntKind.u8 0, MV.int IntKind.u8 0, MV.int IntKind.u8 0, MV.int IntKind.u8 0, MV.int IntKind.u8 0, MV.int IntKind.u8 0, MV.int IntKind.u8 0, MV.int IntKind.u8 0, MV.int IntKind.u8 0, MV.int IntKind.u8 0, MV.int IntKind.u8 0, MV.int IntKind.u8 0, MV.int IntKind.u8 0, MV.int IntKind.u8 0, MV.int IntKind.u8 0, MV.int IntKind.u8 0] } := by kernel_rfl
theorem ti165 : tiOf Tryz.prog 165 = some { kd := TK.func, size := 1, bytes := 8, zero := [MV.nilfn] } := by kernel_rfl
theorem ti166 : tiOf Tryz.prog 166 = some { kd := TK.arr 256 4, size := 256, bytes := 256, zero := [MV.bool false, MV.bool false, MV.bool false, MV.bool false, MV.bool false, MV.bool false, MV.bool false, MV.bool false, MV.bool false, MV.bool false, MV.bool false, MV.bool false, MV.bool false, MV.bool false, MV.bool false, MV.bool false, MV.bool false, MV.bool false, MV.bool false, MV.bool false, MV.bool false, MV.bool false, MV.bool false, MV.bool false, MV.bool false, MV.bool false, MV.bool false, MV.bool false, MV.bool false, MV.bool false, MV.bool false, MV.bool false, MV.bool false, MV.bool false, MV.bool false, MV.bool false, MV.bool false, MV.bool false, MV.bool false, MV.bool false, MV.bool false, MV.bool false, MV.bool false, MV.bool false, MV.bool false, MV.bool false, MV.bool false, MV.bool false, MV.bool false, MV.bool false, MV.bool false, MV.bool false, MV.bool false, MV.bool false, MV.bool false, MV.bool false, MV.bool false, MV.bool false, MV.bool false, MV.bool false, MV.bool false, MV.bool false, MV.bool false, MV.bool false, MV.bool false, MV.bool false, MV.bool false, MV.bool false, MV.bool false, MV.bool false, MV.bool false, MV.bool false, MV.bool false, MV.bool false, MV.bool false, MV.bool false, MV.bool false, MV.bool false, MV.bool false, MV.bool false, MV.bool false, MV.bool false, MV.bool false, MV.bool false, MV.bool false, MV.bool false, MV.bool false, MV.bool false, MV.bool false, MV.bool false, MV.bool false, MV.bool false, MV.bool false, MV.bool false, MV.bool false, MV.bool false, MV.bool false, MV.bool false, MV.bool false, MV.bool false, MV.bool false, MV.bool false, MV.bool false, MV.bool false, MV.bool false, MV.bool false, MV.bool false, MV.bool false, MV.bool false, MV.bool false, MV.bool false, MV.bool false, MV.bool false, MV.bool false, MV.bool false, MV.bool false, MV.bool false, MV.bool false, MV.bool false, MV.bool false, MV.bool false, MV.bool false, MV.bool false, MV.bool false, MV.bool false, MV.bool false, MV.bool false, MV.bool false, MV.bool false, MV.bool false, MV.bool false, MV.bool false, MV.bool false, MV.bool false, MV.bool false, MV.bool false, MV.bool false, MV.bool false, MV.bool false, MV.bool false, MV.bool false, MV.bool false, MV.bool false, MV.bool false, MV.bool false, MV.bool false, MV.bool false, MV.bool false, MV.bool false, MV.bool false, MV.bool false, MV.bool false, MV.bool false, MV.bool false, MV.bool false, MV.bool false, MV.bool false, MV.bool false, MV.bool false, MV.bool false, MV.bool false, MV.bool false, MV.bool false, MV.bool false, MV.bool false, MV.bool false, MV.bool false, MV.bool false, MV.bool false, MV.bool false, MV.bool false, MV.bool false, MV.bool false, MV.bool false, MV.bool false, MV.bool false, MV.bool false, MV.bool false, MV.bool false, MV.bool false, MV.bool false, MV.bool false, MV.bool false, MV.bool false, MV.bool false, MV.bool false, MV.bool false, MV.bool false, MV.bool false, MV.bool false, MV.bool false, MV.bool false, MV.bool false, MV.bool false, MV.bool false, MV.bool false, MV.bool false, MV.bool false, MV.bool false, MV.bool false, MV.bool false, MV.bool false, MV.bool false, MV.bool false, MV.bool false, MV.bool false, MV.bool false, MV.bool false, MV.bool false, MV.bool false, MV.bool false, MV.bool false, MV.bool false, MV.bool false, MV.bool false, MV.bool false, MV.bool false, MV.bool false, MV.bool false, MV.bool false, MV.bool false, MV.bool false, MV.bool false, MV.bool false, MV.bool false, MV.bool false, MV.bool false, MV.bool false, MV.bool false, MV.bool false, MV.bool false, MV.bool false, MV.bool false, MV.bool false, MV.bool false, MV.bool false, MV.bool false, MV.bool false, MV.bool false, MV.bool false, MV.bool false, MV.bool false, MV.bool false, MV.bool false, MV.bool false, MV.bool false, MV.bool false, MV.bool false, MV.bool false, MV.bool false, MV.bool false, MV.bool false, MV.bool false, MV.bool false, MV.bool false, MV.bool false] } := by kernel_rfl
theorem ti167 : tiOf Tryz.prog 167 = some { kd := TK.arr 256 4, size := 256, bytes := 256, zero := [MV.bool false, MV.bool false, MV.bool false, MV.bool false, MV.bool false, MV.bool false, MV.bool false, MV.bool false, MV.bool false, MV.bool false, MV.bool false, MV.bool false, MV.bool false, MV.bool false, MV.bool false, MV.bool false, MV.bool false, MV.bool false, MV.bool false, MV.bool false, MV.bool false, MV.bool false, MV.bool false, MV.bool false, MV.bool false, MV.bool false, MV.bool false, MV.bool false, MV.bool false, MV.bool false, MV.bool false, MV.bool false, MV.bool false, MV.bool false, MV.bool false, MV.bool false, MV.bool false, MV.bool false, MV.bool false, MV.bool false, MV.bool false, MV.bool false, MV.bool false, MV.bool false, MV.bool false, MV.bool false, MV.bool false, MV.bool false, MV.bool false, MV.bool false, MV.bool false, MV.bool false, MV.bool false, MV.bool false, MV.bool false, MV.bool false, MV.bool false, MV.bool false, MV.bool false, MV.bool false, MV.bool false, MV.bool false, MV.bool false, MV.bool false, MV.bool false, MV.bool false, MV.bool false, MV.bool false, MV.bool false, MV.bool false, MV.bool false, MV.bool false, MV.bool false, MV.bool false, MV.bool false, MV.bool false, MV.bool false, MV.bool false, MV.bool false, MV.bool false, MV.bool false, MV.bool false, MV.bool false, MV.bool false, MV.bool false, MV.bool false, MV.bool false, MV.bool false, MV.bool false, MV.bool false, MV.bool false, MV.bool false, MV.bool false, MV.bool false, MV.bool false, MV.bool false, MV.bool false, MV.bool false, MV.bool false, MV.bool false, MV.bool false, MV.bool false, MV.bool false, MV.bool false, MV.bool false, MV.bool false, MV.bool false, MV.bool false, MV.bool false, MV.bool false, MV.bool false, MV.bool false, MV.bool false, MV.bool false, MV.bool false, MV.bool false, MV.bool false, MV.bool false, MV.bool false, MV.bool false, MV.bool false, MV.bool false, MV.bool false, MV.bool false, MV.bool false, MV.bool false, MV.bool false, MV.bool false, MV.bool false, MV.bool false, MV.bool false, MV.bool false, MV.bool false, MV.bool false, MV.bool false, MV.bool false, MV.bool false, MV.bool false, MV.bool false, MV.bool false, MV.bool false, MV.bool false, MV.bool false, MV.bool false, MV.bool false, MV.bool false, MV.bool false, MV.bool false, MV.bool false, MV.bool false, MV.bool false, MV.bool false, MV.bool false, MV.bool false, MV.bool false, MV.bool false, MV.bool false, MV.bool false, MV.bool false, MV.bool false, MV.bool false, MV.bool false, MV.bool false, MV.bool false, MV.bool false, MV.bool false, MV.bool false, MV.bool false, MV.bool false, MV.bool false, MV.bool false, MV.bool false, MV.bool false, MV.bool false, MV.bool false, MV.bool false, MV.bool false, MV.bool false, MV.bool false, MV.bool false, MV.bool false, MV.bool false, MV.bool false, MV.bool false, MV.bool false, MV.bool false, MV.bool false, MV.bool false, MV.bool false, MV.bool false, MV.bool false, MV.bool false, MV.bool false, MV.bool false, MV.bool false, MV.bool false, MV.bool false, MV.bool false, MV.bool false, MV.bool false, MV.bool false, MV.bool false, MV.bool false, MV.bool false, MV.bool false, MV.bool false, MV.bool false, MV.bool false, MV.bool false, MV.bool false, MV.bool false, MV.bool false, MV.bool false, MV.bool false, MV.bool false, MV.bool false, MV.bool false, MV.bool false, MV.bool false, MV.bool false, MV.bool false, MV.bool false, MV.bool false, MV.bool false, MV.bool false, MV.bool false, MV.bool false, MV.bool false, MV.bool false, MV.bool false, MV.bool false, MV.bool false, MV.bool false, MV.bool false, MV.bool false, MV.bool false, MV.bool false, MV.bool false, MV.bool false, MV.bool false, MV.bool false, MV.bool false, MV.bool false, MV.bool false, MV.bool false, MV.bool false, MV.bool false, MV.bool false, MV.bool false, MV.bool false, MV.bool false, MV.bool false, MV.bool false, MV.bool false, MV.bool false, MV.bool false] } := by kernel_rfl
theorem ti169 : tiOf Tryz.prog 169 = some { kd := TK.func, size := 1, bytes := 8, zero := [MV.nilfn] } := by kernel_rfl
theorem ti170 : tiOf Tryz.prog 170 = some { kd := TK.func, size := 1, bytes := 8, zero := [MV.nilfn] } := by kernel_rfl
theorem ti171 : tiOf Tryz.prog 171 = some { kd := TK.ptr 167, size := 1, bytes := 8, zero := [MV.nilptr] } := by kernel_rfl
theorem ti172 : tiOf Tryz.prog 172 = some { kd := TK.func, size := 1, bytes := 8, zero := [MV.nilfn] } := by kernel_rfl
theorem ti174 : tiOf Tryz.prog 174 = some { kd := TK.func, size := 1, bytes := 8, zero := [MV.nilfn] } := by kernel_rfl
theorem ti175 : tiOf Tryz.prog 175 = some { kd := TK.func, size := 1, bytes := 8, zero := [MV.nilfn] } := by kernel_rfl
theorem ti176 : tiOf Tryz.prog 176 = some { kd := TK.func, size := 1, bytes := 8, zero := [MV.nilfn] } := by kernel_rfl
theorem ti177 : tiOf Tryz.prog 177 = some { kd := TK.int IntKind.i64, size := 1, bytes := 8, zero := [MV.int IntKind.i64 0] } := by kernel_rfl
theorem ti179 : tiOf Tryz.prog 179 = some { kd := TK.func, size := 1, bytes := 8, zero := [MV.nilfn] } := by kernel_rfl
theorem ti180 : tiOf Tryz.prog 180 = some { kd := TK.func, size := 1, bytes := 8, zero := [MV.nilfn] } := by kernel_rfl
theorem ti181 : tiOf Tryz.prog 181 = some { kd := TK.func, size := 1, bytes := 8, zero := [MV.nilfn] } := by kernel_rfl
theorem ti182 : tiOf Tryz.prog 182 = some { kd := TK.func, size := 1, bytes := 8, zero := [MV.nilfn] } := by kernel_rfl
theorem ti183 : tiOf Tryz.prog 183 = some { kd := TK.func, size := 1, bytes := 8, zero := [MV.nilfn] } := by kernel_rfl
theorem ti184 : tiOf Tryz.prog 184 = some { kd := TK.func, size := 1, bytes := 8, zero := [MV.nilfn] } := by kernel_rfl
theorem ti185 : tiOf Tryz.prog 185 = some { kd := TK.func, size := 1, bytes := 8, zero := [MV.nilfn] } := by kernel_rfl
theorem ti186 : tiOf Tryz.prog 186 = some { kd := TK.func, size := 1, bytes := 8, zero := [MV.nilfn] } := by kernel_rfl
theorem ti187 : tiOf Tryz.prog 187 = some { kd := TK.func, size := 1, bytes := 8, zero := [MV.nilfn] } := by kernel_rfl
theorem ti188 : tiOf Tryz.prog 188 = some { kd := TK.func, size := 1, bytes := 8, zero := [MV.nilfn] } := by kernel_rfl
theorem ti189 : tiOf Tryz.prog 189 = some { kd := TK.func, size := 1, bytes := 8, zero := [MV.nilfn] } := by kernel_rfl
theorem ti190 : tiOf Tryz.prog 190 = some { kd := TK.other, size := 1, bytes := 8, zero := [MV.nilptr] } := by kernel_rfl
theorem ti191 : tiOf Tryz.prog 191 = some { kd := TK.func, size := 1, bytes := 8, zero := [MV.nilfn] } := by kernel_rfl
theorem ti192 : tiOf Tryz.prog 192 = some { kd := TK.func, size := 1, bytes := 8, zero := [MV.nilfn] } := by kernel_rfl
theorem ti194 : tiOf Tryz.prog 194 = some { kd := TK.func, size := 1, bytes := 8, zero := [MV.nilfn] } := by kernel_rfl
theorem ti195 : tiOf Tryz.prog 195 = some { kd := TK.func, size := 1, bytes := 8, zero := [MV.nilfn] } := by kernel_rfl
theorem ti196 : tiOf Tryz.prog 196 = some { kd := TK.func, size := 1, bytes := 8, zero := [MV.nilfn] } := by kernel_rfl
theorem ti197 : tiOf Tryz.prog 197 = some { kd := TK.func, size := 1, bytes := 8, zero := [MV.nilfn] } := by kernel_rfl
theorem ti198 : tiOf Tryz.prog 198 = some { kd := TK.arr 24 5, size := 24, bytes := 24, zero := [MV.int IntKind.u8 0, MV.int IntKind.u8 0, MV.int IntKind.u8 0, MV.int IntKind.u8 0, MV.int IntKind.u8 0, MV.int IntKind.u8 0, MV.int IntKind.u8 0, MV.int IntKind.u8 0, MV.int IntKind.u8 0, MV.int IntKind.u8 0, MV.int IntKind.u8 0, MV.int IntKind.u8 0, MV.int IntKind.u8 0, MV.int IntKind.u8 0, MV.int IntKind.u8 0, MV.int IntKind.u8 0, MV.int IntKind.u8 0, MV.int IntKind.u8 0, MV.int IntKind.u8 0, MV.int IntKind.u8 0, MV.int IntKind.u8 0, MV.int IntKind.u8 0, MV.int IntKind.u8 0, MV.int IntKind.u8 0] } := by kernel_rfl
theorem ti199 : tiOf Tryz.prog 199 = some { kd := TK.func, size := 1, bytes := 8, zero := [MV.nilfn] } := by kernel_rfl
theorem ti201 : tiOf Tryz.prog 201 = some { kd := TK.func, size := 1, bytes := 8, zero := [MV.nilfn] } := by kernel_rfl
theorem ti202 : tiOf Tryz.prog 202 = some { kd := TK.int IntKind.u64, size := 1, bytes := 8, zero := [MV.int IntKind.u64 0] } := by kernel_rfl
theorem ti203 : tiOf Tryz.prog 203 = some { kd := TK.func, size := 1, bytes := 8, zero := [MV.nilfn] } := by kernel_rfl
theorem ti204 : tiOf Tryz.prog 204 = some { kd := TK.func, size := 1, bytes := 8, zero := [MV.nilfn] } := by kernel_rfl
theorem ti205 : tiOf Tryz.prog 205 = some { kd := TK.func, size := 1, bytes := 8, zero := [MV.nilfn] } := by kernel_rfl
theorem ti206 : tiOf Tryz.prog 206 = some { kd := TK.ptr 3, size := 1, bytes := 8, zero := [MV.nilptr] } := by kernel_rfl
theorem ti207 : tiOf Tryz.prog 207 = some { kd := TK.func, size := 1, bytes := 8, zero := [MV.nilfn] } := by kernel_rfl
theorem ti208 : tiOf Tryz.prog 208 = some { kd := TK.func, size := 1, bytes := 8, zero := [MV.nilfn] } := by kernel_rfl
theorem ti209 : tiOf Tryz.prog 209 = some { kd := TK.func, size := 1, bytes := 8, zero := [MV.nilfn] } := by kernel_rfl
theorem ti210 : tiOf Tryz.prog 210 = some { kd := TK.func, size := 1, bytes := 8, zero := [MV.nilfn] } := by kernel_rfl
theorem ti211 : tiOf Tryz.prog 211 = some { kd := TK.func, size := 1, bytes := 8, zero := [MV.nilfn] } := by kernel_rfl
theorem ti212 : tiOf Tryz.prog 212 = some { kd := TK.int IntKind.i64, size := 1, bytes := 8, zero := [MV.int IntKind.i64 0] } := by kernel_rfl
theorem ti213 : tiOf Tryz.prog 213 = some { kd := TK.func, size := 1, bytes := 8, zero := [MV.nilfn] } := by kernel_rfl
theorem ti214 : tiOf Tryz.prog 214 = some { kd := TK.ptr 227, size := 1, bytes := 8, zero := [MV.nilptr] } := by kernel_rfl
theorem ti215 : tiOf Tryz.prog 215 = some { kd := TK.func, size := 1, bytes := 8, zero := [MV.nilfn] } := by kernel_rfl
theorem ti216 : tiOf Tryz.prog 216 = some { kd := TK.func, size := 1, bytes := 8, zero := [MV.nilfn] } := by kernel_rfl
theorem ti217 : tiOf Tryz.prog 217 = some { kd := TK.func, size := 1, bytes := 8, zero := [MV.nilfn] } := by kernel_rfl
theorem ti218 : tiOf Tryz.prog 218 = some { kd := TK.arr 20 138, size := 20, bytes := 160, zero := [MV.int IntKind.u64 0, MV.int IntKind.u64 0, MV.int IntKind.u64 0, MV.int IntKind.u64 0, MV.int IntKind.u64 0, MV.int IntKind.u64 0, MV.int IntKind.u64 0, MV.int IntKind.u64 0, MV.int IntKind.u64 0, MV.int IntKind.u64 0, MV.int IntKind.u64 0, MV.int IntKind.u64 0, MV.int IntKind.u64 0, MV.int IntKind.u64 0, MV.int IntKind.u64 0, MV.int IntKind.u64 0, MV.int IntKind.u64 0, MV.int IntKind.u64 0, MV.int IntKind.u64 0, MV.int IntKind.u64 0] } := by kernel_rfl
theorem ti219 : tiOf Tryz.prog 219 = some { kd := TK.arr 65 5, size := 65, bytes := 65, zero := [MV.int IntKind.u8 0, MV.int IntKind.u8 0, MV.int IntKind.u8 0, MV.int IntKind.u8 0, MV.int IntKind.u8 0, MV.int IntKind.u8 0, MV.int IntKind.u8 0, MV.int IntKind.u8 0, MV.int IntKind.u8 0, MV.int IntKind.u8 0, MV.int IntKind.u8 0, MV.int IntKind.u8 0, MV.int IntKind.u8 0, MV.int IntKind.u8 0, MV.int IntKind.u8 0, MV.int IntKind.u8 0, MV.int IntKind.u8 0, MV.int IntKind.u8 0, MV.int IntKind.u8 0, MV.int IntKind.u8 0, MV.int IntKind.u8 0, MV.int IntKind.u8 0, MV.int IntKind.u8 0, MV.int IntKind.u8 0, MV.int IntKind.u8 0, MV.int IntKind.u8 0, MV.int IntKind.u8 0, MV.int IntKind.u8 0, MV.int IntKind.u8 0, MV.int IntKind.u8 0, MV.int IntKind.u8 0, MV.int IntKind.u8 0, MV.int IntKind.u8 0, MV.int IntKind.u8 0, MV.int IntKind.u8 0, MV.int IntKind.u8 0, MV.int IntKind.u8 0, MV.int IntKind.u8 0, MV.int IntKind.u8 0, MV.int IntKind.u8 0, MV.int IntKind.u8 0, MV.int IntKind.u8 0, MV.int IntKind.u8 0, MV.int IntKind.u8 0, MV.int IntKind.u8 0, MV.int IntKind.u8 0, MV.int IntKind.u8 0, MV.int IntKind.u8 0, MV.int IntKind.u8 0, MV.int IntKind.u8 0, MV.int IntKind.u8 0, MV.int IntKind.u8 0, MV.int IntKind.u8 0, MV.int IntKind.u8 0, MV.int IntKind.u8 0, MV.int IntKind.u8 0, MV.int IntKind.u8 0, MV.int IntKind.u8 0, MV.int IntKind.u8 0, MV.int IntKind.u8 0, MV.int IntKind.u8 0, MV.int IntKind.u8 0, MV.int IntKind.u8 0, MV.int IntKind.u8 0, MV.int IntKind.u8 0] } := by kernel_rfl
theorem ti220 : tiOf Tryz.prog 220 = some { kd := TK.ptr 202, size := 1, bytes := 8, zero := [MV.nilptr] } := by kernel_rfl
theorem ti222 : tiOf Tryz.prog 222 = some { kd := TK.func, size := 1, bytes := 8, zero := [MV.nilfn] } := by kernel_rfl
theorem ti223 : tiOf Tryz.prog 223 = some { kd := TK.func, size := 1, bytes := 8, zero := [MV.nilfn] } := by kernel_rfl
theorem ti224 : tiOf Tryz.prog 224 = some { kd := TK.func, size := 1, bytes := 8, zero := [MV.nilfn] } := by kernel_rfl
theorem ti225 : tiOf Tryz.prog 225 = some { kd := TK.func, size := 1, bytes := 8, zero := [MV.nilfn] } := by kernel_rfl
theorem ti226 : tiOf Tryz.prog 226 = some { kd := TK.strct [(0, 9), (1, 9), (2, 131)], size := 3, bytes := 48, zero := [MV.str ByteArray.empty, MV.str ByteArray.empty, MV.nilifc] } := by kernel_rfl
theorem ti227 : tiOf Tryz.prog 227 = some { kd := TK.strct [(0, 9), (1, 9), (2, 131)], size := 3, bytes := 48, zero := [MV.str ByteArray.empty, MV.str ByteArray.empty, MV.nilifc] } := by kernel_rfl
theorem ti228 : tiOf Tryz.prog 228 = some { kd := TK.func, size := 1, bytes := 8, zero := [MV.nilfn] } := by kernel_rfl
theorem ti229 : tiOf Tryz.prog 229 = some { kd := TK.ptr 231, size := 1, bytes := 8, zero := [MV.nilptr] } := by kernel_rfl
theorem ti230 : tiOf Tryz.prog 230 = some { kd := TK.strct [(0, 9)], size := 1, bytes := 16, zero := [MV.str ByteArray.empty] } := by kernel_rfl
theorem ti231 : tiOf Tryz.prog 231 = some { kd := TK.strct [(0, 9)], size := 1, bytes := 16, zero := [MV.str ByteArray.empty] } := by kernel_rfl
theorem ti232 : tiOf Tryz.prog 232 = some { kd := TK.arr 32 5, size := 32, bytes := 32, zero := [MV.int IntKind.u8 0, MV.int IntKind.u8 0, MV.int IntKind.u8 0, MV.int IntKind.u8 0, MV.int IntKind.u8 0, MV.int IntKind.u8 0, MV.int IntKind.u8 0, MV.int IntKind.u8 0, MV.int IntKind.u8 0, MV.int IntKind.u8 0, MV.int IntKind.u8 0, MV.int IntKind.u8 0, MV.int IntKind.u8 0, MV.int IntKind.u8 0, MV.int IntKind.u8 0, MV.int IntKind.u8 0, MV.int IntKind.u8 0, MV.int IntKind.u8 0, MV.int IntKind.u8 0, MV.int IntKind.u8 0, MV.int IntKind.u8 0, MV.int IntKind.u8 0, MV.int IntKind.u8 0, MV.int IntKind.u8 0, MV.int IntKind.u8 0, MV.int IntKind.u8 0, MV.int IntKind.u8 0, MV.int IntKind.u8 0, MV.int IntKind.u8 0, MV.int IntKind.u8 0, MV.int IntKind.u8 0, MV.int IntKind.u8 0] } := by kernel_rfl
theorem ti233 : tiOf Tryz.prog 233 = some { kd := TK.arr 64 5, size := 64, bytes := 64, zero := [MV.int IntKind.u8 0, MV.int IntKind.u8 0, MV.int IntKind.u8 0, MV.int IntKind.u8 0, MV.int IntKind.u8 0, MV.int IntKind.u8 0, MV.int IntKind.u8 0, MV.int IntKind.u8 0, MV.int IntKind.u8 0, MV.int IntKind.u8 0, MV.int IntKind.u8 0, MV.int IntKind.u8 0, MV.int IntKind.u8 0, MV.int IntKind.u8 0, MV.int IntKind.u8 0, MV.int IntKind.u8 0, MV.int IntKind.u8 0, MV.int IntKind.u8 0, MV.int IntKind.u8 0, MV.int IntKind.u8 0, MV.int IntKind.u8 0, MV.int IntKind.u8 0, MV.int IntKind.u8 0, MV.int IntKind.u8 0, MV.int IntKind.u8 0, MV.int IntKind.u8 0, MV.int IntKind.u8 0, MV.int IntKind.u8 0, MV.int IntKind.u8 0, MV.int IntKind.u8 0, MV.int IntKind.u8 0, MV.int IntKind.u8 0, MV.int IntKind.u8 0, MV.int IntKind.u8 0, MV.int IntKind.u8 0, MV.int IntKind.u8 0, MV.int IntKind.u8 0, MV.int IntKind.u8 0, MV.int IntKind.u8 0, MV.int IntKind.u8 0, MV.int IntKind.u8 0, MV.int IntKind.u8 0, MV.int IntKind.u8 0, MV.int IntKind.u8 0, MV.int IntKind.u8 0, MV.int IntKind.u8 0, MV.int IntKind.u8 0, MV.int IntKind.u8 0, MV.int IntKind.u8 0, MV.int IntKind.u8 0, MV.int IntKind.u8 0, MV.int IntKind.u8 0, MV.int IntKind.u8 0, MV.int IntKind.u8 0, MV.int IntKind.u8 0, MV.int IntKind.u8 0, MV.int IntKind.u8 0, MV.int IntKind.u8 0, MV.int IntKind.u8 0, MV.int IntKind.u8 0, MV.int IntKind.u8 0, MV.int IntKind.u8 0, MV.int IntKind.u8 0, MV.int IntKind.u8 0] } := by kernel_rfl
theorem ti234 : tiOf Tryz.prog 234 = some { kd := TK.func, size := 1, bytes := 8, zero := [MV.nilfn] } := by kernel_rfl
theorem ti235 : tiOf Tryz.prog 235 = some { kd := TK.strct [(0, 17), (1, 17), (2, 17), (3, 9)], size := 4, bytes := 40, zero := [MV.nilptr, MV.nilptr, MV.nilptr, MV.str ByteArray.empty] } := by kernel_rfl
theorem ti236 : tiOf Tryz.prog 236 = some { kd := TK.strct [(0, 17), (1, 17), (2, 17), (3, 9)], size := 4, bytes := 40, zero := [MV.nilptr, MV.nilptr, MV.nilptr, MV.str ByteArray.empty] } := by kernel_rfl
theorem ti237 : tiOf Tryz.prog 237 = some { kd := TK.arr 0 16, size := 0, bytes := 0, zero := [] } := by kernel_rfl
theorem ti238 : tiOf Tryz.prog 238 = some { kd := TK.strct [(0, 237)], size := 0, bytes := 0, zero := [] } := by kernel_rfl
theorem ti239 : tiOf Tryz.prog 239 = some { kd := TK.strct [(0, 237)], size := 0, bytes := 0, zero := [] } := by kernel_rfl
theorem ti240 : tiOf Tryz.prog 240 = some { kd := TK.int IntKind.u8, size := 1, bytes := 1, zero := [MV.int IntKind.u8 0] } := by kernel_rfl
theorem ti241 : tiOf Tryz.prog 241 = some { kd := TK.int IntKind.u8, size := 1, bytes := 1, zero := [MV.int IntKind.u8 0] } := by kernel_rfl
theorem ti242 : tiOf Tryz.prog 242 = some { kd := TK.func, size := 1, bytes := 8, zero := [MV.nilfn] } := by kernel_rfl
theorem ti243 : tiOf Tryz.prog 243 = some { kd := TK.int IntKind.i32, size := 1, bytes := 4, zero := [MV.int IntKind.i32 0] } := by kernel_rfl
theorem ti244 : tiOf Tryz.prog 244 = some { kd := TK.int IntKind.i32, size := 1, bytes := 4, zero := [MV.int IntKind.i32 0] } := by kernel_rfl
theorem ti245 : tiOf Tryz.prog 245 = some { kd := TK.strct [(0, 12), (1, 12), (2, 154), (3, 240), (4, 5), (5, 5), (6, 241), (7, 242), (8, 159), (9, 243), (10, 244)], size := 11, bytes := 48, zero := [MV.int IntKind.u64 0, MV.int IntKind.u64 0, MV.int IntKind.u32 0, MV.int IntKind.u8 0, MV.int IntKind.u8 0, MV.int IntKind.u8 0, MV.int IntKind.u8 0, MV.nilfn, MV.nilptr, MV.int IntKind.i32 0, MV.int IntKind.i32 0] } := by kernel_rfl
theorem ti246 : tiOf Tryz.prog 246 = some { kd := TK.strct [(0, 12), (1, 12), (2, 154), (3, 240), (4, 5), (5, 5), (6, 241), (7, 242), (8, 159), (9, 243), (10, 244)], size := 11, bytes := 48, zero := [MV.int IntKind.u64 0, MV.int IntKind.u64 0, MV.int IntKind.u32 0, MV.int IntKind.u8 0, MV.int IntKind.u8 0, MV.int IntKind.u8 0, MV.int IntKind.u8 0, MV.nilfn, MV.nilptr, MV.int IntKind.i32 0, MV.int IntKind.i32 0] } := by kernel_rfl
theorem eqt7 : eqTy Tryz.prog 7 = some [TK.int IntKind.i64, TK.int IntKind.i64, TK.bool, TK.int IntKind.u8] := by kernel_rfl
theorem eqt8 : eqTy Tryz.prog 8 = some [TK.int IntKind.i64, TK.int IntKind.i64, TK.bool, TK.int IntKind.u8] := by kernel_rfl
theorem eqt29 : eqTy Tryz.prog 29 = some [TK.str, TK.str, TK.int IntKind.i64, TK.str, TK.int IntKind.i64, TK.str, TK.str] := by kernel_rfl
theorem eqt30 : eqTy Tryz.prog 30 = some [TK.str, TK.str, TK.int IntKind.i64, TK.str, TK.int IntKind.i64, TK.str, TK.str] := by kernel_rfl
theorem eqt92 : eqTy Tryz.prog 92 = some [TK.int IntKind.i64, TK.int IntKind.i64, TK.str, TK.str, TK.str] := by kernel_rfl
theorem eqt93 : eqTy Tryz.prog 93 = some [TK.int IntKind.i64, TK.int IntKind.i64, TK.str, TK.str, TK.str] := by kernel_rfl
theorem eqt162 : eqTy Tryz.prog 162 = some [TK.int IntKind.u8, TK.int IntKind.u8] := by kernel_rfl
theorem eqt163 : eqTy Tryz.prog 163 = some [TK.int IntKind.u8, TK.int IntKind.u8] := by kernel_rfl
theorem eqt230 : eqTy Tryz.prog 230 = some [TK.str] := by kernel_rfl
theorem eqt231 : eqTy Tryz.prog 231 = some [TK.str] := by kernel_rfl
theorem hmix : Tryz.prog.follows .mixedOrders = true := by kernel_rfl
end Go.Pv
/- Contracts of Go's library, out of the kit's shelf: strings.Trim, strings.Fields, strings.Split. -/
namespace Go.Pv
open Go Go.Proofs

theorem gp_at {ω : Own} {w : World} (h : GOk ω w) {name : String} {k : IntKind} {zs : List Int} (hq : ∀ w0, GP w0 → Go.Lib.TabIs Tryz.prog w0 name k zs) : Go.Lib.TabIs Tryz.prog w name k zs := by
  obtain ⟨w0, h0, h1⟩ := h
  have h2 := hq w0 h0
  unfold Go.Lib.TabIs World.var? at h2 ⊢
  cases hg : (Tryz.prog).globalNamed name with
  | none => rw [hg] at h2; exact h2
  | some g =>
    rw [hg] at h2
    simp only [Option.bind_some] at h2 ⊢
    have hlt : g < w0.heap.size := by
      cases e : w0.heap[g]? with
      | none => rw [e] at h2; simp at h2
      | some o => exact (Array.getElem?_eq_some_iff.1 e).1
    rw [(h1 g hlt).2]; exact h2
theorem gp_cell {ω : Own} {w : World} (h : GOk ω w) {g : Nat} (hq : ∀ w0, GP w0 → ∃ m : Int, w0.cell? ⟨g, 0, none⟩ = some (.int .i64 m)) : ∃ m : Int, w.cell? ⟨g, 0, none⟩ = some (.int .i64 m) := by
  obtain ⟨w0, h0, h1⟩ := h
  obtain ⟨m, hm⟩ := hq w0 h0
  have hlt : g < w0.heap.size := by
    have := World.block_lt_of_cell? w0 _ hm
    exact this
  exact ⟨m, by rw [cell_of_heap (h1 g hlt).2]; exact hm⟩

def trimH : Cl → List MV → Bxs → Out
  | _, [.str s, .str c], [] => if s.size ≤ 9223372036854775807 ∧ c.size < 4294967281 ∧ c.data.toList.all (fun b => decide (b.toNat < 128)) = true then some ([.str ⟨(Go.Lib.trimS s.data.toList c.data.toList).toArray⟩], []) else none
  | _, _, _ => none
theorem trim_ok (cl : Cl) (_ : Sound Tryz.prog cl) (args : List MV) (B : Bxs) (r : Res) (B' : Bxs) (h : trimH cl args B = some (r, B')) : SpecB Tryz.prog 99 args B r B' := by
  unfold trimH at h
  split at h
  · rename_i s c
    split at h
    · rename_i hc
      cases h
      refine spec_below (V := fun _ _ => True) (enter_of Tryz.func99 rfl rfl) (fun γ ω w vs hl hv => two_strs hl hv) (fun ω w _ _ => ?_)
      refine (Any.strings_Trim_laid sh160 (by kernel_rfl) s c w hc.1 hc.2.1 (ascii_of_all hc.2.2)).mono fun e w' ⟨he, hb⟩ => ⟨_, he, hb, .str _⟩
    · cases h
  · cases h
end Go.Pv
/- What the shelf's contracts need of this program. Printed by lay.py. -/
namespace Go.Proofs
open Go.Shelf
def sh219_ren : Go.Shelf.Ren := ⟨fun | 219 => 166 | 217 => 185 | 225 => 186 | 224 => 187 | 267 => 188 | 266 => 203 | 314 => 204 | n => n, fun | 9 => 9 | 3 => 3 | 4 => 4 | 5 => 5 | 46 => 122 | 146 => 155 | 51 => 154 | n => n, fun | 1 => 2 | n => n⟩
theorem sh219 : Lays.n219 Tryz.prog sh219_ren where
  mixed := by kernel_rfl
  f217 := Tryz.func185.trans (congrArg some (by kernel_rfl))
  f219 := Tryz.func166.trans (congrArg some (by kernel_rfl))
  f224 := Tryz.func187.trans (congrArg some (by kernel_rfl))
  f225 := Tryz.func186.trans (congrArg some (by kernel_rfl))
  f266 := Tryz.func203.trans (congrArg some (by kernel_rfl))
  f267 := Tryz.func188.trans (congrArg some (by kernel_rfl))
  f314 := Tryz.func204.trans (congrArg some (by kernel_rfl))
  t3 := Tryz.underlying3
  a3 := Tryz.isAgg3
  z3 := Tryz.sizeOf3
  v3 := Tryz.zeroValue3
  t4 := Tryz.underlying4
  a4 := Tryz.isAgg4
  z4 := Tryz.sizeOf4
  v4 := Tryz.zeroValue4
  t5 := Tryz.underlying5
  a5 := Tryz.isAgg5
  z5 := Tryz.sizeOf5
  v5 := Tryz.zeroValue5
  t9 := Tryz.underlying9
  a9 := Tryz.isAgg9
  z9 := Tryz.sizeOf9
  v9 := Tryz.zeroValue9
  t46 := Tryz.underlying122
  a46 := Tryz.isAgg122
  z46 := Tryz.sizeOf122
  v46 := Tryz.zeroValue122
  t51 := Tryz.underlying154
  a51 := Tryz.isAgg154
  z51 := Tryz.sizeOf154
  v51 := Tryz.zeroValue154
  t146 := Tryz.underlying155
  a146 := Tryz.isAgg155
  z146 := Tryz.sizeOf155
  v146 := Tryz.zeroValue155
  g1 := by kernel_rfl
def sh316_ren : Go.Shelf.Ren := ⟨fun | 316 => 205 | n => n, fun | 9 => 9 | 3 => 3 | 4 => 4 | 37 => 126 | 0 => 0 | 127 => 159 | 5 => 5 | n => n, fun n => n⟩
theorem sh316 : LaysM.n316 Tryz.prog sh316_ren where
  mixed := by kernel_rfl
  f316 := Tryz.func205.trans (congrArg some (by kernel_rfl))
  t0 := Tryz.underlying0
  a0 := Tryz.isAgg0
  z0 := Tryz.sizeOf0
  v0 := Tryz.zeroValue0
  t3 := Tryz.underlying3
  a3 := Tryz.isAgg3
  z3 := Tryz.sizeOf3
  v3 := Tryz.zeroValue3
  t4 := Tryz.underlying4
  a4 := Tryz.isAgg4
  z4 := Tryz.sizeOf4
  v4 := Tryz.zeroValue4
  t9 := Tryz.underlying9
  a9 := Tryz.isAgg9
  z9 := Tryz.sizeOf9
  v9 := Tryz.zeroValue9
  t37 := Tryz.underlying126
  a37 := Tryz.isAgg126
  z37 := Tryz.sizeOf126
  v37 := Tryz.zeroValue126
  t127 := Tryz.underlying159
  a127 := Tryz.isAgg159
  z127 := Tryz.sizeOf159
  v127 := Tryz.zeroValue159
  t5 := Tryz.underlying5
  a5 := Tryz.isAgg5
  z5 := Tryz.sizeOf5
  v5 := Tryz.zeroValue5
  i0 := by kernel_rfl
  i3 := by kernel_rfl
  i4 := by kernel_rfl
  i5 := by kernel_rfl
  i9 := by kernel_rfl
  i37 := by kernel_rfl
  i127 := by kernel_rfl
end Go.Proofs
/- Contracts of Go's library, out of the kit's shelf: strings.Join, strings.Clone, the search for a string in a string. -/
namespace Go.Pv
open Go Go.Proofs

def cloneH : Cl → List MV → Bxs → Out
  | _, [.str s], [] => if s.size ≤ 281474976710656 then some ([.str s], []) else none
  | _, _, _ => none
theorem clone_ok (cl : Cl) (_ : Sound Tryz.prog cl) (args : List MV) (B : Bxs) (r : Res) (B' : Bxs) (h : cloneH cl args B = some (r, B')) : SpecB Tryz.prog 205 args B r B' := by
  unfold cloneH at h
  split at h
  · rename_i s
    split at h
    · rename_i hc
      cases h
      refine spec_below (V := fun _ _ => True) (enter_of Tryz.func205 rfl rfl) (fun γ ω w vs hl hv => one_str hl hv) (fun ω w hlt hg => ?_)
      exact (Any.stringslite_Clone sh316 s w hc).mono fun e w' ⟨he, hb⟩ => ⟨_, he, hb, .str _⟩
    · cases h
  · cases h
def indexH : Cl → List MV → Bxs → Out
  | _, [.str s, .str c], [] => if s.size < 4294967281 then some ([.int .i64 (Go.Lib.index s.data.toList c.data.toList)], []) else none
  | _, _, _ => none
theorem index_ok (cl : Cl) (_ : Sound Tryz.prog cl) (args : List MV) (B : Bxs) (r : Res) (B' : Bxs) (h : indexH cl args B = some (r, B')) : SpecB Tryz.prog 166 args B r B' := by
  unfold indexH at h
  split at h
  · rename_i s c
    split at h
    · rename_i hc
      cases h
      refine spec_below (V := fun _ _ => True) (enter_of Tryz.func166 rfl rfl) (fun γ ω w vs hl hv => two_strs hl hv) (fun ω w hlt hg => ?_)
      obtain ⟨m, hm⟩ := gp_cell hg (g := sh219_ren.g 1) fun w0 h0 => h0.maxLen
      refine (Any.stringslite_Index sh219 s c m w hc hm).mono fun e w' ⟨he, hb⟩ => ⟨_, he, by rw [hb]; exact Go.RowKit.Below.refl _ _, .int _ _⟩
    · cases h
  · cases h
end Go.Pv
/- What the shelf's contracts need of this program. Printed by lay.py. -/
namespace Go.Proofs
open Go.Shelf
def sh105_ren : Go.Shelf.Ren := ⟨fun | 105 => 50 | 212 => 92 | 99 => 93 | 165 => 94 | 166 => 95 | 170 => 96 | 169 => 97 | 263 => 121 | 264 => 122 | 206 => 123 | 240 => 124 | 241 => 125 | 276 => 160 | 277 => 161 | n => n, fun | 9 => 9 | 3 => 3 | 4 => 4 | 20 => 20 | 0 => 0 | 46 => 122 | 109 => 123 | 5 => 5 | 72 => 128 | 76 => 132 | 51 => 154 | 146 => 155 | 53 => 138 | 148 => 157 | 70 => 125 | 37 => 126 | 75 => 131 | 127 => 159 | 164 => 190 | 80 => 77 | n => n, fun n => n⟩
theorem sh105 : Lays.n105 Tryz.prog sh105_ren where
  mixed := by kernel_rfl
  f99 := Tryz.func93.trans (congrArg some (by kernel_rfl))
  f105 := Tryz.func50.trans (congrArg some (by kernel_rfl))
  f165 := Tryz.func94.trans (congrArg some (by kernel_rfl))
  f166 := Tryz.func95.trans (congrArg some (by kernel_rfl))
  f169 := Tryz.func97.trans (congrArg some (by kernel_rfl))
  f170 := Tryz.func96.trans (congrArg some (by kernel_rfl))
  f206 := Tryz.func123.trans (congrArg some (by kernel_rfl))
  f212 := Tryz.func92.trans (congrArg some (by kernel_rfl))
  f240 := Tryz.func124.trans (congrArg some (by kernel_rfl))
  f241 := Tryz.func125.trans (congrArg some (by kernel_rfl))
  f263 := Tryz.func121.trans (congrArg some (by kernel_rfl))
  f264 := Tryz.func122.trans (congrArg some (by kernel_rfl))
  f276 := Tryz.func160.trans (congrArg some (by kernel_rfl))
  f277 := Tryz.func161.trans (congrArg some (by kernel_rfl))
  t0 := Tryz.underlying0
  a0 := Tryz.isAgg0
  z0 := Tryz.sizeOf0
  v0 := Tryz.zeroValue0
  t3 := Tryz.underlying3
  a3 := Tryz.isAgg3
  z3 := Tryz.sizeOf3
  v3 := Tryz.zeroValue3
  t4 := Tryz.underlying4
  a4 := Tryz.isAgg4
  z4 := Tryz.sizeOf4
  v4 := Tryz.zeroValue4
  t5 := Tryz.underlying5
  a5 := Tryz.isAgg5
  z5 := Tryz.sizeOf5
  v5 := Tryz.zeroValue5
  t9 := Tryz.underlying9
  a9 := Tryz.isAgg9
  z9 := Tryz.sizeOf9
  v9 := Tryz.zeroValue9
  t20 := Tryz.underlying20
  a20 := Tryz.isAgg20
  z20 := Tryz.sizeOf20
  v20 := Tryz.zeroValue20
  t37 := Tryz.underlying126
  a37 := Tryz.isAgg126
  z37 := Tryz.sizeOf126
  v37 := Tryz.zeroValue126
  t46 := Tryz.underlying122
  a46 := Tryz.isAgg122
  z46 := Tryz.sizeOf122
  v46 := Tryz.zeroValue122
  t51 := Tryz.underlying154
  a51 := Tryz.isAgg154
  z51 := Tryz.sizeOf154
  v51 := Tryz.zeroValue154
  t53 := Tryz.underlying138
  a53 := Tryz.isAgg138
  z53 := Tryz.sizeOf138
  v53 := Tryz.zeroValue138
  t70 := Tryz.underlying125
  a70 := Tryz.isAgg125
  z70 := Tryz.sizeOf125
  v70 := Tryz.zeroValue125
  t72 := Tryz.underlying128
  a72 := Tryz.isAgg128
  z72 := Tryz.sizeOf128
  v72 := Tryz.zeroValue128
  t75 := Tryz.underlying131
  a75 := Tryz.isAgg131
  z75 := Tryz.sizeOf131
  v75 := Tryz.zeroValue131
  t76 := Tryz.underlying132
  a76 := Tryz.isAgg132
  z76 := Tryz.sizeOf132
  v76 := Tryz.zeroValue132
  t109 := Tryz.underlying123
  a109 := Tryz.isAgg123
  z109 := Tryz.sizeOf123
  v109 := Tryz.zeroValue123
  t127 := Tryz.underlying159
  a127 := Tryz.isAgg159
  z127 := Tryz.sizeOf159
  v127 := Tryz.zeroValue159
  t146 := Tryz.underlying155
  a146 := Tryz.isAgg155
  z146 := Tryz.sizeOf155
  v146 := Tryz.zeroValue155
  t148 := Tryz.underlying157
  a148 := Tryz.isAgg157
  z148 := Tryz.sizeOf157
  v148 := Tryz.zeroValue157
  t164 := Tryz.underlying190
  a164 := Tryz.isAgg190
  z164 := Tryz.sizeOf190
  v164 := Tryz.zeroValue190
def sh196_ren : Go.Shelf.Ren := ⟨fun | 196 => 98 | 259 => 126 | n => n, fun | 9 => 9 | 4 => 4 | 3 => 3 | 5 => 5 | 12 => 12 | 119 => 161 | 0 => 0 | 46 => 122 | 139 => 164 | 138 => 163 | 53 => 138 | n => n, fun | 3 => 0 | 4 => 1 | n => n⟩
theorem sh196 : Lays.n196 Tryz.prog sh196_ren where
  mixed := by kernel_rfl
  f196 := Tryz.func98.trans (congrArg some (by kernel_rfl))
  f259 := Tryz.func126.trans (congrArg some (by kernel_rfl))
  t0 := Tryz.underlying0
  a0 := Tryz.isAgg0
  z0 := Tryz.sizeOf0
  v0 := Tryz.zeroValue0
  t3 := Tryz.underlying3
  a3 := Tryz.isAgg3
  z3 := Tryz.sizeOf3
  v3 := Tryz.zeroValue3
  t4 := Tryz.underlying4
  a4 := Tryz.isAgg4
  z4 := Tryz.sizeOf4
  v4 := Tryz.zeroValue4
  t5 := Tryz.underlying5
  a5 := Tryz.isAgg5
  z5 := Tryz.sizeOf5
  v5 := Tryz.zeroValue5
  t9 := Tryz.underlying9
  a9 := Tryz.isAgg9
  z9 := Tryz.sizeOf9
  v9 := Tryz.zeroValue9
  t12 := Tryz.underlying12
  a12 := Tryz.isAgg12
  z12 := Tryz.sizeOf12
  v12 := Tryz.zeroValue12
  t46 := Tryz.underlying122
  a46 := Tryz.isAgg122
  z46 := Tryz.sizeOf122
  v46 := Tryz.zeroValue122
  t53 := Tryz.underlying138
  a53 := Tryz.isAgg138
  z53 := Tryz.sizeOf138
  v53 := Tryz.zeroValue138
  t119 := Tryz.underlying161
  a119 := Tryz.isAgg161
  z119 := Tryz.sizeOf161
  t138 := Tryz.underlying163
  a138 := Tryz.isAgg163
  z138 := Tryz.sizeOf163
  v138 := Tryz.zeroValue163
  t139 := Tryz.underlying164
  a139 := Tryz.isAgg164
  z139 := Tryz.sizeOf164
  v139 := Tryz.zeroValue164
  g3 := by kernel_rfl
  g4 := by kernel_rfl
end Go.Proofs
/- Contracts of Go's library, out of the kit's shelf: strings.Repeat, utf8.ValidString. -/
namespace Go.Pv
open Go Go.Proofs

theorem gp_utf8 {ω : Own} {w : World} (h : GOk ω w) {g3 g4 : Nat} (hq : ∀ w0, GP w0 → Go.Lib.Utf8Tabs g3 g4 w0) : Go.Lib.Utf8Tabs g3 g4 w := by
  obtain ⟨w0, h0, h1⟩ := h
  obtain ⟨q1, q2⟩ := hq w0 h0
  have hlt : ∀ (g o : Nat) (v : Value), w0.cell? ⟨g, o, none⟩ = some v → w.cell? ⟨g, o, none⟩ = some v := fun g o v hv => by
    have : g < w0.heap.size := World.block_lt_of_cell? w0 _ hv
    rw [cell_of_heap (h1 g this).2]; exact hv
  exact ⟨fun c hc => hlt _ _ _ (q1 c hc), fun i hi => ⟨hlt _ _ _ (q2 i hi).1, hlt _ _ _ (q2 i hi).2⟩⟩
def validH : Cl → List MV → Bxs → Out
  | _, [.str s], [] => if s.size ≤ 9223372036854775807 then some ([.bool (Go.Lib.validD s.data.toList)], []) else none
  | _, _, _ => none
theorem valid_ok (cl : Cl) (_ : Sound Tryz.prog cl) (args : List MV) (B : Bxs) (r : Res) (B' : Bxs) (h : validH cl args B = some (r, B')) : SpecB Tryz.prog 98 args B r B' := by
  unfold validH at h
  split at h
  · rename_i s
    split at h
    · rename_i hc
      cases h
      refine spec_below (V := fun _ _ => True) (enter_of Tryz.func98 rfl rfl) (fun γ ω w vs hl hv => one_str hl hv) (fun ω w hlt hg => ?_)
      exact (Any.utf8_ValidString sh196 s w hc (gp_utf8 hg fun w0 h0 => h0.utf8)).mono fun e w' ⟨he, hb⟩ => ⟨_, he, hb, .bool _⟩
    · cases h
  · cases h
theorem extra105 : Builder.Extra Tryz.prog sh105_ren where
  -- for 50
  sizeBuilder := by kernel_rfl
  liesBuilder := by kernel_rfl
  t5 := by kernel_rfl
  a5 := fun w => by kernel_rfl
  z5 := fun w => by kernel_rfl
  v5 := fun w => by kernel_rfl
  infoByte := by kernel_rfl
  cellsByte := by kernel_rfl
  sizeByte := by kernel_rfl
  neB5 := by decide
theorem str_int {a : ByteArray} {k : IntKind} {n : Int} {γ : List Value} {ω : Own} {w : World} {vs : List Value} (hl : vs.length = [MV.str a, MV.int k n].length) (h : ∀ (i : Nat) (c : MV) (u : Value), [MV.str a, MV.int k n][i]? = some c → vs[i]? = some u → Rep γ ω w c u) : vs = [.string a, .int k n] := by
  obtain ⟨v0, v1, rfl⟩ : ∃ v0 v1, vs = [v0, v1] := by
    match vs, hl with
    | [a, b], _ => exact ⟨a, b, rfl⟩
  have r0 := h 0 (.str a) v0 rfl rfl
  have r1 := h 1 (.int k n) v1 rfl rfl
  cases r0
  cases r1
  rfl
def repeatH : Cl → List MV → Bxs → Out
  | _, [.str s, .int .i64 c], [] => if 0 ≤ c ∧ c ≤ 9223372036854775807 ∧ s.size * c.toNat ≤ 140737488355328 then some ([.str ⟨(Go.Lib.repeatL s.data.toList c.toNat).toArray⟩], []) else none
  | _, _, _ => none
theorem repeat_ok (cl : Cl) (_ : Sound Tryz.prog cl) (args : List MV) (B : Bxs) (r : Res) (B' : Bxs) (h : repeatH cl args B = some (r, B')) : SpecB Tryz.prog 50 args B r B' := by
  unfold repeatH at h
  split at h
  · rename_i s c
    split at h
    · rename_i hc
      cases h
      obtain ⟨n, rfl⟩ : ∃ n : Nat, c = n := ⟨c.toNat, by omega⟩
      refine spec_below (V := fun _ _ => True) (enter_of Tryz.func50 rfl rfl) (fun γ ω w vs hl hv => str_int hl hv) (fun ω w hlt hg => ?_)
      exact (Any.strings_Repeat sh105 extra105 s n w (by omega) (by simpa using hc.2.2)).mono fun e w' ⟨he, hb⟩ => ⟨_, he, hb, .str _⟩
    · cases h
  · cases h
end Go.Pv
/- What the shelf's contracts need of this program. Printed by lay.py. -/
namespace Go.Proofs
open Go.Shelf
def sh27_ren : Go.Shelf.Ren := ⟨fun | 27 => 198 | 28 => 208 | 29 => 209 | n => n, fun | 25 => 122 | 3 => 3 | 27 => 154 | 22 => 138 | 4 => 4 | 53 => 232 | 0 => 0 | 5 => 5 | 54 => 233 | n => n, fun | 0 => 6 | 1 => 7 | n => n⟩
theorem sh27 : Lays7.n27 Tryz.prog sh27_ren where
  mixed := by kernel_rfl
  f27 := Tryz.func198.trans (congrArg some (by kernel_rfl))
  f28 := Tryz.func208.trans (congrArg some (by kernel_rfl))
  f29 := Tryz.func209.trans (congrArg some (by kernel_rfl))
  t0 := Tryz.underlying0
  a0 := Tryz.isAgg0
  z0 := Tryz.sizeOf0
  v0 := Tryz.zeroValue0
  i0 := by kernel_rfl
  t3 := Tryz.underlying3
  a3 := Tryz.isAgg3
  z3 := Tryz.sizeOf3
  v3 := Tryz.zeroValue3
  i3 := by kernel_rfl
  t4 := Tryz.underlying4
  a4 := Tryz.isAgg4
  z4 := Tryz.sizeOf4
  v4 := Tryz.zeroValue4
  i4 := by kernel_rfl
  t5 := Tryz.underlying5
  a5 := Tryz.isAgg5
  z5 := Tryz.sizeOf5
  v5 := Tryz.zeroValue5
  i5 := by kernel_rfl
  t22 := Tryz.underlying138
  a22 := Tryz.isAgg138
  z22 := Tryz.sizeOf138
  v22 := Tryz.zeroValue138
  i22 := by kernel_rfl
  t25 := Tryz.underlying122
  a25 := Tryz.isAgg122
  z25 := Tryz.sizeOf122
  v25 := Tryz.zeroValue122
  i25 := by kernel_rfl
  t27 := Tryz.underlying154
  a27 := Tryz.isAgg154
  z27 := Tryz.sizeOf154
  v27 := Tryz.zeroValue154
  i27 := by kernel_rfl
  t53 := Tryz.underlying232
  a53 := Tryz.isAgg232
  z53 := Tryz.sizeOf232
  v53 := Tryz.zeroValue232
  i53 := by kernel_rfl
  t54 := Tryz.underlying233
  a54 := Tryz.isAgg233
  z54 := Tryz.sizeOf233
  g0 := by kernel_rfl
  g1 := by kernel_rfl
end Go.Proofs
/- Contracts of Go's library, out of the kit's shelf: math/bits.TrailingZeros. -/
namespace Go.Pv
open Go Go.Proofs

theorem one_int {k : IntKind} {n : Int} {γ : List Value} {ω : Own} {w : World} {vs : List Value} (hl : vs.length = [MV.int k n].length) (h : ∀ (i : Nat) (c : MV) (u : Value), [MV.int k n][i]? = some c → vs[i]? = some u → Rep γ ω w c u) : vs = [.int k n] := by
  obtain ⟨v0, rfl⟩ : ∃ v0, vs = [v0] := by
    match vs, hl with
    | [a], _ => exact ⟨a, rfl⟩
  have r0 := h 0 (.int k n) v0 rfl rfl
  cases r0
  rfl
def tzH : Cl → List MV → Bxs → Out
  | _, [.int .u64 x], [] => if 0 ≤ x ∧ x < 18446744073709551616 then some ([.int .i64 ((Go.Lib.ctz 64 x.toNat : Nat) : Int)], []) else none
  | _, _, _ => none
theorem tz_ok (cl : Cl) (_ : Sound Tryz.prog cl) (args : List MV) (B : Bxs) (r : Res) (B' : Bxs) (h : tzH cl args B = some (r, B')) : SpecB Tryz.prog 198 args B r B' := by
  unfold tzH at h
  split at h
  · rename_i x
    split at h
    · rename_i hc
      cases h
      obtain ⟨n, rfl⟩ : ∃ n : Nat, x = n := ⟨x.toNat, by omega⟩
      refine spec_below (V := fun _ _ => True) (enter_of Tryz.func198 rfl rfl) (fun γ ω w vs hl hv => one_int hl hv) (fun ω w hlt hg => ?_)
      have hT := gp_at hg fun w0 h0 => h0.tz
      exact (Any7.bits_TrailingZeros sh27 n (by omega) w (fun _ j hj => by
        have := hT.cell (g := sh27_ren.g 1) (by kernel_rfl) j (by simpa using hj)
        rw [this]
        congr 2
        simp [List.getD, List.getElem?_map, List.getElem?_eq_getElem hj])).mono fun e w' ⟨he, hb⟩ => ⟨_, he, by rw [hb]; exact Go.RowKit.Below.refl _ _, .int _ _⟩
    · cases h
  · cases h
end Go.Pv
/- What the shelf's contracts need of this program. Printed by lay.py. -/
namespace Go.Proofs
open Go.Shelf
def sh245_ren : Go.Shelf.Ren := ⟨fun | 245 => 169 | 279 => 191 | 280 => 192 | 281 => 193 | 282 => 194 | 316 => 205 | 171 => 207 | 205 => 206 | 243 => 210 | 246 => 211 | 283 => 170 | 284 => 171 | 285 => 172 | 286 => 173 | 129 => 150 | 317 => 195 | 318 => 196 | 319 => 197 | 320 => 198 | 337 => 208 | 338 => 209 | n => n, fun | 9 => 9 | 3 => 3 | 75 => 131 | 167 => 212 | 4 => 4 | 168 => 214 | 210 => 227 | 37 => 126 | 0 => 0 | 127 => 159 | 145 => 231 | 143 => 229 | 2 => 2 | 171 => 198 | 53 => 138 | 5 => 5 | 173 => 200 | 212 => 218 | 51 => 154 | 20 => 20 | 213 => 219 | 46 => 122 | 232 => 232 | 233 => 233 | 80 => 77 | n => n, fun | 15 => 4 | 16 => 5 | 17 => 3 | 18 => 6 | 19 => 7 | n => n⟩
theorem sh245 : LaysC.n245 Tryz.prog sh245_ren where
  mixed := by kernel_rfl
  f129 := Tryz.func150.trans (congrArg some (by kernel_rfl))
  f171 := Tryz.func207.trans (congrArg some (by kernel_rfl))
  f205 := Tryz.func206.trans (congrArg some (by kernel_rfl))
  f243 := Tryz.func210.trans (congrArg some (by kernel_rfl))
  f245 := Tryz.func169.trans (congrArg some (by kernel_rfl))
  f246 := Tryz.func211.trans (congrArg some (by kernel_rfl))
  f279 := Tryz.func191.trans (congrArg some (by kernel_rfl))
  f280 := Tryz.func192.trans (congrArg some (by kernel_rfl))
  f281 := Tryz.func193.trans (congrArg some (by kernel_rfl))
  f282 := Tryz.func194.trans (congrArg some (by kernel_rfl))
  f283 := Tryz.func170.trans (congrArg some (by kernel_rfl))
  f284 := Tryz.func171.trans (congrArg some (by kernel_rfl))
  f285 := Tryz.func172.trans (congrArg some (by kernel_rfl))
  f286 := Tryz.func173.trans (congrArg some (by kernel_rfl))
  f316 := Tryz.func205.trans (congrArg some (by kernel_rfl))
  f317 := Tryz.func195.trans (congrArg some (by kernel_rfl))
  f318 := Tryz.func196.trans (congrArg some (by kernel_rfl))
  f319 := Tryz.func197.trans (congrArg some (by kernel_rfl))
  f320 := Tryz.func198.trans (congrArg some (by kernel_rfl))
  f337 := Tryz.func208.trans (congrArg some (by kernel_rfl))
  f338 := Tryz.func209.trans (congrArg some (by kernel_rfl))
  t0 := Tryz.underlying0
  a0 := Tryz.isAgg0
  z0 := Tryz.sizeOf0
  v0 := Tryz.zeroValue0
  t2 := Tryz.underlying2
  a2 := Tryz.isAgg2
  z2 := Tryz.sizeOf2
  v2 := Tryz.zeroValue2
  t3 := Tryz.underlying3
  a3 := Tryz.isAgg3
  z3 := Tryz.sizeOf3
  v3 := Tryz.zeroValue3
  t4 := Tryz.underlying4
  a4 := Tryz.isAgg4
  z4 := Tryz.sizeOf4
  v4 := Tryz.zeroValue4
  t5 := Tryz.underlying5
  a5 := Tryz.isAgg5
  z5 := Tryz.sizeOf5
  v5 := Tryz.zeroValue5
  t9 := Tryz.underlying9
  a9 := Tryz.isAgg9
  z9 := Tryz.sizeOf9
  v9 := Tryz.zeroValue9
  t20 := Tryz.underlying20
  a20 := Tryz.isAgg20
  z20 := Tryz.sizeOf20
  v20 := Tryz.zeroValue20
  t37 := Tryz.underlying126
  a37 := Tryz.isAgg126
  z37 := Tryz.sizeOf126
  v37 := Tryz.zeroValue126
  t46 := Tryz.underlying122
  a46 := Tryz.isAgg122
  z46 := Tryz.sizeOf122
  v46 := Tryz.zeroValue122
  t51 := Tryz.underlying154
  a51 := Tryz.isAgg154
  z51 := Tryz.sizeOf154
  v51 := Tryz.zeroValue154
  t53 := Tryz.underlying138
  a53 := Tryz.isAgg138
  z53 := Tryz.sizeOf138
  v53 := Tryz.zeroValue138
  t75 := Tryz.underlying131
  a75 := Tryz.isAgg131
  z75 := Tryz.sizeOf131
  v75 := Tryz.zeroValue131
  t127 := Tryz.underlying159
  a127 := Tryz.isAgg159
  z127 := Tryz.sizeOf159
  v127 := Tryz.zeroValue159
  t143 := Tryz.underlying229
  a143 := Tryz.isAgg229
  z143 := Tryz.sizeOf229
  v143 := Tryz.zeroValue229
  t145 := Tryz.underlying231
  a145 := Tryz.isAgg231
  z145 := Tryz.sizeOf231
  v145 := Tryz.zeroValue231
  t167 := Tryz.underlying212
  a167 := Tryz.isAgg212
  z167 := Tryz.sizeOf212
  v167 := Tryz.zeroValue212
  t168 := Tryz.underlying214
  a168 := Tryz.isAgg214
  z168 := Tryz.sizeOf214
  v168 := Tryz.zeroValue214
  t171 := Tryz.underlying198
  a171 := Tryz.isAgg198
  z171 := Tryz.sizeOf198
  v171 := Tryz.zeroValue198
  t173 := Tryz.underlying200
  a173 := Tryz.isAgg200
  z173 := Tryz.sizeOf200
  v173 := Tryz.zeroValue200
  t210 := Tryz.underlying227
  a210 := Tryz.isAgg227
  z210 := Tryz.sizeOf227
  v210 := Tryz.zeroValue227
  t212 := Tryz.underlying218
  a212 := Tryz.isAgg218
  z212 := Tryz.sizeOf218
  v212 := Tryz.zeroValue218
  t213 := Tryz.underlying219
  a213 := Tryz.isAgg219
  z213 := Tryz.sizeOf219
  t232 := Tryz.underlying232
  a232 := Tryz.isAgg232
  z232 := Tryz.sizeOf232
  v232 := Tryz.zeroValue232
  t233 := Tryz.underlying233
  a233 := Tryz.isAgg233
  z233 := Tryz.sizeOf233
  v233 := Tryz.zeroValue233
  g15 := by kernel_rfl
  g16 := by kernel_rfl
  g17 := by kernel_rfl
  g18 := by kernel_rfl
  g19 := by kernel_rfl
  t80 := Tryz.underlying77
  a80 := Tryz.isAgg77
  z80 := Tryz.sizeOf77
  v80 := Tryz.zeroValue77
  i0 := by kernel_rfl
  i2 := by kernel_rfl
  i3 := by kernel_rfl
  i4 := by kernel_rfl
  i5 := by kernel_rfl
  i9 := by kernel_rfl
  i20 := by kernel_rfl
  i37 := by kernel_rfl
  i46 := by kernel_rfl
  i51 := by kernel_rfl
  i53 := by kernel_rfl
  i75 := by kernel_rfl
  i80 := by kernel_rfl
  i127 := by kernel_rfl
  i143 := by kernel_rfl
  i145 := by kernel_rfl
  i167 := by kernel_rfl
  i168 := by kernel_rfl
  i171 := by kernel_rfl
  i173 := by kernel_rfl
  i210 := by kernel_rfl
  i212 := by kernel_rfl
  i232 := by kernel_rfl
  i233 := by kernel_rfl
  m15 := by kernel_rfl
  m16 := by kernel_rfl
  m17 := by kernel_rfl
  m18 := by kernel_rfl
  m19 := by kernel_rfl
  c0 := by kernel_rfl
  c2 := by kernel_rfl
  c3 := by kernel_rfl
  c4 := by kernel_rfl
  c5 := by kernel_rfl
  c9 := by kernel_rfl
  c20 := by kernel_rfl
  c37 := by kernel_rfl
  c46 := by kernel_rfl
  c51 := by kernel_rfl
  c53 := by kernel_rfl
  c75 := by kernel_rfl
  c80 := by kernel_rfl
  c127 := by kernel_rfl
  c143 := by kernel_rfl
  c145 := by kernel_rfl
  c167 := by kernel_rfl
  c168 := by kernel_rfl
  c171 := by kernel_rfl
  c173 := by kernel_rfl
  c210 := by kernel_rfl
  c212 := by kernel_rfl
  c213 := by kernel_rfl
  c232 := by kernel_rfl
  c233 := by kernel_rfl
end Go.Proofs
/- Contracts of Go's library, out of the kit's shelf: the errors of strconv. -/
namespace Go.Pv
open Go Go.Proofs

theorem gp_errs {ω : Own} {w : World} (h : GOk ω w) {g : Nat} (hq : ∀ w0, GP w0 → ∃ ev, w0.cell? ⟨g, 0, none⟩ = some ev ∧ (ev = .nilIface ∨ ∃ te pe, ev = .iface te pe)) : ∃ ev, w.cell? ⟨g, 0, none⟩ = some ev ∧ (ev = .nilIface ∨ ∃ te pe, ev = .iface te pe) := by
  obtain ⟨w0, h0, h1⟩ := h
  obtain ⟨ev, hm, he⟩ := hq w0 h0
  have hlt : g < w0.heap.size := World.block_lt_of_cell? w0 _ hm
  exact ⟨ev, by rw [cell_of_heap (h1 g hlt).2]; exact hm, he⟩
/-- What strconv makes of an inner error: some error. -/
def toErrH : Cl → List MV → Bxs → Out
  | _, [.str fn, .str s, .int .i64 b, .int .i64 c, .ifc t (.int .i64 k)], [] =>
    -- for 169
    if s.size ≤ 281474976710656 ∧ t = sh245_ren.t 167 ∧ (k = 2 ∨ k = 1) then some ([.ifc (sh245_ren.t 168) (.cptr [] 0)], []) else none
  | _, _, _ => none
theorem five_args {a b : ByteArray} {k k' : IntKind} {m n : Int} {t : TypeId} {k3 : IntKind} {q : Int} {γ : List Value} {ω : Own} {w : World} {vs : List Value} (hl : vs.length = [MV.str a, MV.str b, MV.int k m, MV.int k' n, MV.ifc t (.int k3 q)].length) (h : ∀ (i : Nat) (c : MV) (u : Value), [MV.str a, MV.str b, MV.int k m, MV.int k' n, MV.ifc t (.int k3 q)][i]? = some c → vs[i]? = some u → Rep γ ω w c u) : vs = [.string a, .string b, .int k m, .int k' n, .iface t (.int k3 q)] := by
  obtain ⟨v0, v1, v2, v3, v4, rfl⟩ : ∃ v0 v1 v2 v3 v4, vs = [v0, v1, v2, v3, v4] := by
    match vs, hl with
    | [a, b, c, d, e], _ => exact ⟨a, b, c, d, e, rfl⟩
  have r0 := h 0 (.str a) v0 rfl rfl
  have r1 := h 1 (.str b) v1 rfl rfl
  have r2 := h 2 (.int k m) v2 rfl rfl
  have r3 := h 3 (.int k' n) v3 rfl rfl
  have r4 := h 4 (.ifc t (.int k3 q)) v4 rfl rfl
  cases r0; cases r1; cases r2; cases r3
  cases r4 with
  | ifc _ _ v hr =>
    cases hr
    rfl
theorem toErr_ok (cl : Cl) (_ : Sound Tryz.prog cl) (args : List MV) (B : Bxs) (r : Res) (B' : Bxs) (h : toErrH cl args B = some (r, B')) : SpecB Tryz.prog 169 args B r B' := by
  unfold toErrH at h
  split at h
  · rename_i fn s b c t k
    split at h
    · rename_i hc
      cases h
      obtain ⟨h1, rfl, h3⟩ := hc
      refine spec_below (V := fun _ _ => True) (enter_of Tryz.func169 rfl rfl) (fun γ ω w vs hl hv => five_args hl hv) (fun ω w hlt hg => ?_)
      have fin : ∀ {N : Nat} {w' : World} {cs : Array Value} {ty : TypeId}, w.heap.size ≤ N → w'.heap[N]? = some (.cells cs ty (0, 0)) → Rep [] ω w' (.ifc (sh245_ren.t 168) (.cptr [] 0)) (.iface (sh245_ren.t 168) (.pointer (some ⟨N, 0, none⟩))) := by
        intro N w' cs ty hN hw
        refine .ifc _ _ _ ?_
        have := Rep.cptr (γ := []) (ω := ω) (w := w') [] 0 N 0 (fun _ => undef) (hlt N hN) (Array.getElem?_eq_some_iff.1 hw).1 rfl (by simp) (by simp)
        simpa using this
      rcases h3 with rfl | rfl
      · obtain ⟨ev, hv, hev⟩ := gp_errs hg (g := sh245_ren.g 15) fun w0 h0 => h0.errSyntax
        exact (Any.strconv_toError_syntax sh245 fn s b c ev w h1 hv hev).mono fun e w' ⟨N, he, hN, hw, hb⟩ => ⟨_, he, hb, fin hN hw⟩
      · obtain ⟨ev, hv, hev⟩ := gp_errs hg (g := sh245_ren.g 16) fun w0 h0 => h0.errRange
        exact (Any.strconv_toError_range sh245 fn s b c ev w h1 hv hev).mono fun e w' ⟨N, he, hN, hw, hb⟩ => ⟨_, he, hb, fin hN hw⟩
    · cases h
  · cases h
end Go.Pv
/- What the shelf's contracts of slices.Sorted and maps.Keys need of this program. Printed by layg.py. -/
namespace Go.Proofs
open Go.Shelf
def sorted7_ren : Go.Shelf.Ren := ⟨fun | 6 => 73 | 8 => 112 | 9 => 78 | 11 => 139 | 13 => 117 | 12 => 116 | 23 => 149 | 24 => 150 | 14 => 140 | 15 => 141 | 16 => 142 | 17 => 143 | 18 => 144 | 19 => 145 | 20 => 146 | 21 => 147 | 22 => 148 | 25 => 174 | 26 => 175 | 27 => 176 | 28 => 177 | 29 => 178 | 30 => 159 | 31 => 199 | n => n, fun | 26 => 9 | 28 => 97 | 24 => 42 | 0 => 0 | 3 => 3 | 37 => 122 | 48 => 154 | 50 => 138 | 4 => 4 | 40 => 178 | 39 => 177 | 45 => 86 | 5 => 5 | 9 => 9 | 51 => 202 | 55 => 206 | 57 => 220 | 58 => 221 | 33 => 49 | n => n, fun n => n⟩
theorem sorted7 : SlLaysZ.n6 Tryz.prog sorted7_ren where
  mixed := by kernel_rfl
  f6 := ⟨"slices.Sorted[string]", by kernel_rfl, Tryz.func73.trans (congrArg some (by kernel_rfl))⟩
  f8 := ⟨"slices.Collect[string]", by kernel_rfl, Tryz.func112.trans (congrArg some (by kernel_rfl))⟩
  f11 := ⟨"slices.AppendSeq[[]string,string]", by kernel_rfl, Tryz.func139.trans (congrArg some (by kernel_rfl))⟩
  t0 := Tryz.underlying0
  a0 := Tryz.isAgg0
  z0 := Tryz.sizeOf0
  v0 := Tryz.zeroValue0
  t24 := Tryz.underlying42
  a24 := Tryz.isAgg42
  z24 := Tryz.sizeOf42
  v24 := Tryz.zeroValue42
  t26 := Tryz.underlying9
  a26 := Tryz.isAgg9
  z26 := Tryz.sizeOf9
  v26 := Tryz.zeroValue9
  t28 := Tryz.underlying97
  a28 := Tryz.isAgg97
  z28 := Tryz.sizeOf97
  v28 := Tryz.zeroValue97
  i26 := by kernel_rfl

def sort7_ren : Go.Shelf.Ren := ⟨fun | 6 => 78 | 8 => 117 | 9 => 116 | 19 => 149 | 20 => 150 | 21 => 140 | 22 => 141 | 23 => 142 | 24 => 143 | 25 => 144 | 26 => 145 | 27 => 146 | 28 => 147 | 29 => 148 | 36 => 174 | 31 => 175 | 32 => 176 | 37 => 177 | 38 => 178 | 39 => 159 | 41 => 199 | n => n, fun | 27 => 42 | 29 => 9 | 3 => 3 | 32 => 122 | 26 => 42 | 0 => 0 | 44 => 154 | 46 => 138 | 4 => 4 | 36 => 178 | 35 => 177 | 41 => 86 | 5 => 5 | 9 => 9 | 53 => 202 | 57 => 206 | 63 => 220 | 64 => 221 | n => n, fun n => n⟩
theorem sort7 : SlLaysM.n6 Tryz.prog sort7_ren where
  mixed := by kernel_rfl
  f6 := ⟨"slices.Sort[[]string,string]", by kernel_rfl, Tryz.func78.trans (congrArg some (by kernel_rfl))⟩
  f8 := Tryz.func117.trans (congrArg some (by kernel_rfl))
  f9 := ⟨"slices.pdqsortOrdered[string]", by kernel_rfl, Tryz.func116.trans (congrArg some (by kernel_rfl))⟩
  f19 := Tryz.func149.trans (congrArg some (by kernel_rfl))
  f20 := Tryz.func150.trans (congrArg some (by kernel_rfl))
  f21 := ⟨"slices.insertionSortOrdered[string]", by kernel_rfl, Tryz.func140.trans (congrArg some (by kernel_rfl))⟩
  f22 := ⟨"slices.heapSortOrdered[string]", by kernel_rfl, Tryz.func141.trans (congrArg some (by kernel_rfl))⟩
  f23 := ⟨"slices.breakPatternsOrdered[string]", by kernel_rfl, Tryz.func142.trans (congrArg some (by kernel_rfl))⟩
  f24 := ⟨"slices.choosePivotOrdered[string]", by kernel_rfl, Tryz.func143.trans (congrArg some (by kernel_rfl))⟩
  f25 := ⟨"slices.reverseRangeOrdered[string]", by kernel_rfl, Tryz.func144.trans (congrArg some (by kernel_rfl))⟩
  f26 := ⟨"slices.partialInsertionSortOrdered[string]", by kernel_rfl, Tryz.func145.trans (congrArg some (by kernel_rfl))⟩
  f27 := ⟨"cmp.Less[string]", by kernel_rfl, Tryz.func146.trans (congrArg some (by kernel_rfl))⟩
  f28 := ⟨"slices.partitionEqualOrdered[string]", by kernel_rfl, Tryz.func147.trans (congrArg some (by kernel_rfl))⟩
  f29 := ⟨"slices.partitionOrdered[string]", by kernel_rfl, Tryz.func148.trans (congrArg some (by kernel_rfl))⟩
  f31 := Tryz.func175.trans (congrArg some (by kernel_rfl))
  f32 := Tryz.func176.trans (congrArg some (by kernel_rfl))
  f36 := ⟨"slices.siftDownOrdered[string]", by kernel_rfl, Tryz.func174.trans (congrArg some (by kernel_rfl))⟩
  f37 := ⟨"slices.medianAdjacentOrdered[string]", by kernel_rfl, Tryz.func177.trans (congrArg some (by kernel_rfl))⟩
  f38 := ⟨"slices.medianOrdered[string]", by kernel_rfl, Tryz.func178.trans (congrArg some (by kernel_rfl))⟩
  f39 := ⟨"cmp.isNaN[string]", by kernel_rfl, Tryz.func159.trans (congrArg some (by kernel_rfl))⟩
  f41 := ⟨"slices.order2Ordered[string]", by kernel_rfl, Tryz.func199.trans (congrArg some (by kernel_rfl))⟩
  t0 := Tryz.underlying0
  a0 := Tryz.isAgg0
  z0 := Tryz.sizeOf0
  v0 := Tryz.zeroValue0
  t3 := Tryz.underlying3
  a3 := Tryz.isAgg3
  z3 := Tryz.sizeOf3
  v3 := Tryz.zeroValue3
  t4 := Tryz.underlying4
  a4 := Tryz.isAgg4
  z4 := Tryz.sizeOf4
  v4 := Tryz.zeroValue4
  t5 := Tryz.underlying5
  a5 := Tryz.isAgg5
  z5 := Tryz.sizeOf5
  v5 := Tryz.zeroValue5
  t9 := Tryz.underlying9
  a9 := Tryz.isAgg9
  z9 := Tryz.sizeOf9
  v9 := Tryz.zeroValue9
  t26 := Tryz.underlying42
  a26 := Tryz.isAgg42
  z26 := Tryz.sizeOf42
  v26 := Tryz.zeroValue42
  t27 := Tryz.underlying42
  a27 := Tryz.isAgg42
  z27 := Tryz.sizeOf42
  v27 := Tryz.zeroValue42
  t29 := Tryz.underlying9
  a29 := Tryz.isAgg9
  z29 := Tryz.sizeOf9
  v29 := Tryz.zeroValue9
  t32 := Tryz.underlying122
  a32 := Tryz.isAgg122
  z32 := Tryz.sizeOf122
  v32 := Tryz.zeroValue122
  t35 := Tryz.underlying177
  a35 := Tryz.isAgg177
  z35 := Tryz.sizeOf177
  v35 := Tryz.zeroValue177
  t36 := Tryz.underlying178
  a36 := Tryz.isAgg178
  z36 := Tryz.sizeOf178
  v36 := Tryz.zeroValue178
  t41 := Tryz.underlying86
  a41 := Tryz.isAgg86
  z41 := Tryz.sizeOf86
  v41 := Tryz.zeroValue86
  t44 := Tryz.underlying154
  a44 := Tryz.isAgg154
  z44 := Tryz.sizeOf154
  v44 := Tryz.zeroValue154
  t46 := Tryz.underlying138
  a46 := Tryz.isAgg138
  z46 := Tryz.sizeOf138
  v46 := Tryz.zeroValue138
  t53 := Tryz.underlying202
  a53 := Tryz.isAgg202
  z53 := Tryz.sizeOf202
  v53 := Tryz.zeroValue202
  t57 := Tryz.underlying206
  a57 := Tryz.isAgg206
  z57 := Tryz.sizeOf206
  v57 := Tryz.zeroValue206
  t63 := Tryz.underlying220
  a63 := Tryz.isAgg220
  z63 := Tryz.sizeOf220
  v63 := Tryz.zeroValue220
  t64 := Tryz.underlying221
  a64 := Tryz.isAgg221
  z64 := Tryz.sizeOf221
  v64 := Tryz.zeroValue221

def keys7_74_ren : Go.Shelf.Ren := ⟨fun | 7 => 74 | 10 => 113 | n => n, fun | 23 => 91 | 26 => 9 | 3 => 9 | 28 => 97 | 0 => 0 | 27 => 96 | 33 => 49 | 4 => 4 | n => n, fun n => n⟩
theorem keys7_74 : SlLaysZ.n7 Tryz.prog keys7_74_ren where
  mixed := by kernel_rfl
  f7 := ⟨"maps.Keys[map[string]string,string,string]", by kernel_rfl, Tryz.func74.trans (congrArg some (by kernel_rfl))⟩
  f10 := ⟨"maps.Keys[map[string]string,string,string]$1", by kernel_rfl, Tryz.func113.trans (congrArg some (by kernel_rfl))⟩
  t0 := Tryz.underlying0
  a0 := Tryz.isAgg0
  z0 := Tryz.sizeOf0
  v0 := Tryz.zeroValue0
  t4 := Tryz.underlying4
  a4 := Tryz.isAgg4
  z4 := Tryz.sizeOf4
  v4 := Tryz.zeroValue4
  t23 := Tryz.underlying91
  a23 := Tryz.isAgg91
  z23 := Tryz.sizeOf91
  v23 := Tryz.zeroValue91
  t26 := Tryz.underlying9
  a26 := Tryz.isAgg9
  z26 := Tryz.sizeOf9
  v26 := Tryz.zeroValue9
  t27 := Tryz.underlying96
  a27 := Tryz.isAgg96
  z27 := Tryz.sizeOf96
  v27 := Tryz.zeroValue96
  t28 := Tryz.underlying97
  a28 := Tryz.isAgg97
  z28 := Tryz.sizeOf97
  v28 := Tryz.zeroValue97
  t33 := Tryz.underlying49
  a33 := Tryz.isAgg49
  z33 := Tryz.sizeOf49
  v33 := Tryz.zeroValue49

end Go.Proofs
/- Contracts of Go's library, out of the kit's shelf: maps.Keys and slices.Sorted, for maps with strings as keys. Printed by h7.py. -/
namespace Go.Pv
open Go Go.Proofs

theorem sorts7 (m : Nat) : AnyZ.SortsIn Tryz.prog sorted7_ren Fence.wide m :=
  ⟨fun blk off cap ss W hH hblk hsz => callsIn_wide.2 (AnyM.slices_Sort_string sort7 blk off cap ss W hH hblk hsz),
   fun p cap W => callsIn_wide.2 (AnyM.slices_Sort_string_none sort7 p cap W)⟩
def keysH74 : Cl → List MV → Bxs → Out
  | _, [.map m], [] => some ([.seq 113 (.map m)], [])
  | _, _, _ => none
theorem keys_ok74 (cl : Cl) (_ : Sound Tryz.prog cl) (args : List MV) (B : Bxs) (r : Res) (B' : Bxs) (h : keysH74 cl args B = some (r, B')) : SpecB Tryz.prog 74 args B r B' := by
  unfold keysH74 at h
  split at h
  · rename_i m
    cases h
    refine spec_belowQ (R := fun ω w vs => ∃ mb, vs = [.map mb] ∧ Rep [] ω w (.map m) (.map mb)) (enter_of Tryz.func74 rfl rfl) (fun γ ω w vs hl hv => ?_) (fun ω w vs hlt hg hR => ?_)
    · match vs, hl with
      | [v], _ =>
        have r1 := (hv 0 _ v rfl rfl).npg (γ' := []) rfl
        cases r1 with
        | map0 => exact ⟨none, rfl, .map0⟩
        | map _ blk es clock a1 a2 a3 a4 a5 a6 a7 a8 a9 a10 => exact ⟨some blk, rfl, .map _ blk es clock a1 a2 a3 a4 a5 a6 a7 a8 a9 a10⟩
    · obtain ⟨mb, rfl, hm⟩ := hR
      refine (callsIn_wide.1 (AnyZ.keys_in keys7_74 Fence.wide 5 trivial rfl mb w)).mono fun e w' ⟨he, hb⟩ => ?_
      subst hb
      refine ⟨_, he, below_alloc _ _, ?_⟩
      have hc : (w.alloc (.cells #[.map mb] (keys7_74_ren.t 23))).cell? ⟨w.heap.size, 0, none⟩ = some (.map mb) := by simp
      exact .seq 113 (.map m) w.heap.size (.map mb) (hlt _ (Nat.le_refl _)) (by simp) rfl hc rfl (hm.keeps (below_keeps (below_alloc _ _)))
  · cases h
def sortedH : Cl → List MV → Bxs → Out
  | _, [.seq g (.map m)], [] => if ((g = 113) ∧ strK m = true) ∧ (mkeysB m).Nodup ∧ m.length ≤ 1000000 then some ([.list (rowB (sortB (mkeysB m)))], []) else none
  | _, _, _ => none
theorem sorted_ok (cl : Cl) (_ : Sound Tryz.prog cl) (args : List MV) (B : Bxs) (r : Res) (B' : Bxs) (h : sortedH cl args B = some (r, B')) : SpecB Tryz.prog 73 args B r B' := by
  unfold sortedH at h
  split at h
  · rename_i g m
    split at h
    · rename_i hc
      obtain ⟨⟨hg, hs⟩, hnk, hl⟩ := hc
      cases h
      refine spec_belowQ (R := fun ω w vs => ∃ blk u, vs = [.func (.func g) #[] #[.pointer (some ⟨blk, 0, none⟩)]] ∧ blk < w.heap.size ∧ w.cell? ⟨blk, 0, none⟩ = some u ∧ Rep [] ω w (.map m) u) (enter_of Tryz.func73 rfl rfl) (fun γ ω w vs hl hv => ?_) (fun ω w vs hlt hgl hR => ?_)
      · match vs, hl with
        | [v], _ =>
          have r1 := (hv 0 _ v rfl rfl).npg (γ' := []) rfl
          cases r1 with
          | seq _ _ blk u a1 a2 a3 a4 a5 a6 => exact ⟨blk, u, rfl, a2, a4, a6⟩
      · obtain ⟨blk, u, rfl, hbl, hcell, hm⟩ := hR
        have hml : (1000000 : Nat) ≤ maxLen := by unfold maxLen; decide
        have hb16 : 1000000 * 16 ≤ 140737488355328 := by decide
        rcases hg with rfl
        · rcases map_owns (P := Tryz.prog) (k := keys7_74_ren.t 26) keys7_74.t26 hm hs hnk (by omega) with ⟨rfl, rfl⟩ | ⟨b, D, R, rfl, hlt2, hown, hperm, hsz⟩
          · have hseq : SeqGives Fence.wide 2 Tryz.prog 113 #[.pointer (some ⟨blk, 0, none⟩)] encStr (fun ss : List (List UInt8) => ss = []) 0 w :=
              AnyZ.keys_gives_nil (ρ := keys7_74_ren) { keys7_74 with } Fence.wide _ trivial rfl blk w hbl hcell
            refine (callsIn_wide.1 (AnyZ.sorted_in sorted7 Fence.wide 5 trivial trivial trivial trivial rfl (by omega) (sorts7 _) (enters_of Tryz.func78 (by kernel_rfl) rfl) 113 #[.pointer (some ⟨blk, 0, none⟩)] trivial (enters_of Tryz.func113 (by kernel_rfl) rfl) _ 0 (Nat.zero_le _) (by omega) w hseq)).mono fun e w' ⟨v, ss, he, hS, hrow, _, hb⟩ => ⟨v, he, hb, ?_⟩
            subst hS
            have e0 : sortB (mkeysB ([] : List (MKey × MV))) = [] := by simp [sortB, mkeysB]
            rw [e0]
            exact rep_ownB (l := []) (by simpa using hrow) hlt
          · have hseq : SeqGives Fence.wide 2 Tryz.prog 113 #[.pointer (some ⟨blk, 0, none⟩)] encStr (fun ss => ss.Perm (strKeys D)) (Maps.size D) w :=
              AnyZ.keys_gives (ρ := keys7_74_ren) { keys7_74 with } Fence.wide _ trivial rfl (by omega) blk b m.length D w hbl hcell hown
            refine (callsIn_wide.1 (AnyZ.sorted_in sorted7 Fence.wide 5 trivial trivial trivial trivial rfl (by omega) (sorts7 _) (enters_of Tryz.func78 (by kernel_rfl) rfl) 113 #[.pointer (some ⟨blk, 0, none⟩)] trivial (enters_of Tryz.func113 (by kernel_rfl) rfl) _ _ (by rw [hsz]; omega) (by rw [hsz]; omega) w hseq)).mono fun e w' ⟨v, ss, he, hS, hrow, _, hb⟩ => ⟨v, he, hb, ?_⟩
            have e1 : sortB (mkeysB m) = ss.mergeSort fun x y => decide (x ≤ y) := mergeSort_of_perm ((hS.trans hperm).symm)
            rw [e1]
            exact rep_ownB (by rw [List.length_mergeSort]; exact hrow) hlt
    · cases h
  · cases h
end Go.Pv
/- What the shelf's contracts need of this program. Printed by lay.py. -/
namespace Go.Proofs
open Go.Shelf
def sh125_ren : Go.Shelf.Ren := ⟨fun | 125 => 117 | 128 => 149 | 129 => 150 | n => n, fun | 46 => 122 | 3 => 3 | 51 => 154 | 53 => 138 | 4 => 4 | 5 => 5 | 9 => 9 | n => n, fun n => n⟩
theorem sh125 : Lays.n125 Tryz.prog sh125_ren where
  mixed := by kernel_rfl
  f125 := Tryz.func117.trans (congrArg some (by kernel_rfl))
  f128 := Tryz.func149.trans (congrArg some (by kernel_rfl))
  f129 := Tryz.func150.trans (congrArg some (by kernel_rfl))
  t3 := Tryz.underlying3
  a3 := Tryz.isAgg3
  z3 := Tryz.sizeOf3
  v3 := Tryz.zeroValue3
  t4 := Tryz.underlying4
  a4 := Tryz.isAgg4
  z4 := Tryz.sizeOf4
  v4 := Tryz.zeroValue4
  t5 := Tryz.underlying5
  a5 := Tryz.isAgg5
  z5 := Tryz.sizeOf5
  v5 := Tryz.zeroValue5
  t9 := Tryz.underlying9
  a9 := Tryz.isAgg9
  z9 := Tryz.sizeOf9
  v9 := Tryz.zeroValue9
  t46 := Tryz.underlying122
  a46 := Tryz.isAgg122
  z46 := Tryz.sizeOf122
  v46 := Tryz.zeroValue122
  t51 := Tryz.underlying154
  a51 := Tryz.isAgg154
  z51 := Tryz.sizeOf154
  v51 := Tryz.zeroValue154
  t53 := Tryz.underlying138
  a53 := Tryz.isAgg138
  z53 := Tryz.sizeOf138
  v53 := Tryz.zeroValue138
end Go.Proofs
/- Contracts of Go's library, out of the kit's shelf: math/bits.Len. -/
namespace Go.Pv
open Go Go.Proofs

def blenH : Cl → List MV → Bxs → Out
  | _, [.int .u64 x], [] => if 0 ≤ x ∧ x ≤ 18446744073709551615 then some ([.int .i64 ((Go.Lib.bitLen x.toNat : Nat) : Int)], []) else none
  | _, _, _ => none
theorem blen_ok (cl : Cl) (_ : Sound Tryz.prog cl) (args : List MV) (B : Bxs) (r : Res) (B' : Bxs) (h : blenH cl args B = some (r, B')) : SpecB Tryz.prog 117 args B r B' := by
  unfold blenH at h
  split at h
  · rename_i x
    split at h
    · rename_i hc
      cases h
      refine spec_below (V := fun _ _ => True) (us := [.int .u64 x]) (enter_of Tryz.func117 rfl rfl) (fun γ ω w vs hl hv => ?_) (fun ω w hlt hg => ?_)
      · obtain ⟨v0, rfl⟩ : ∃ v0, vs = [v0] := by
          match vs, hl with
          | [a], _ => exact ⟨a, rfl⟩
        have r0 := hv 0 (.int .u64 x) v0 rfl rfl
        cases r0
        rfl
      · exact (Any.bits_Len sh125 x w hc.1 hc.2).mono fun e w' ⟨he, hb⟩ => ⟨_, he, by rw [hb]; exact Go.RowKit.Below.refl _ _, .int _ _⟩
    · cases h
  · cases h
end Go.Pv
/- chaseref2.KindWord, by hand: a word out of an array. -/
namespace Go.Pv
open Go Go.Proofs

def kindW (k : Int) : ByteArray := if k = 1 then ⟨#[109, 97, 105, 108]⟩ else if k = 2 then ⟨#[102, 105, 108, 101]⟩ else if k = 3 then ⟨#[98, 111, 120]⟩ else if k = 4 then ⟨#[110, 111, 116, 101]⟩ else ⟨#[]⟩
theorem kind_calls (k : Int) (h : k = 0 ∨ k = 1 ∨ k = 2 ∨ k = 3 ∨ k = 4) (w : World) : Calls Tryz.prog 61 #[.int .i64 k] w fun e w' => e = .returned (.string (kindW k)) ∧ w' = w := by
  have hi : (Instr.index 139 (.agg #[.string ⟨#[]⟩, .string ⟨#[109, 97, 105, 108]⟩, .string ⟨#[102, 105, 108, 101]⟩, .string ⟨#[98, 111, 120]⟩, .string ⟨#[110, 111, 116, 101]⟩]) (.int .i64 k)).run Tryz.prog w = .ok (.string (kindW k)) w := by
    rcases h with rfl | rfl | rfl | rfl | rfl <;> kernel_rfl
  go_enter Tryz.func61, Tryz.ntmps61
  go_wp2
  go_ret
  exact ⟨rfl, rfl⟩
def kindH : Cl → List MV → Bxs → Out
  | _, [.int .i64 k], [] => if k = 0 ∨ k = 1 ∨ k = 2 ∨ k = 3 ∨ k = 4 then some ([.str (kindW k)], []) else none
  | _, _, _ => none
theorem kind_ok (cl : Cl) (_ : Sound Tryz.prog cl) (args : List MV) (B : Bxs) (r : Res) (B' : Bxs) (h : kindH cl args B = some (r, B')) : SpecB Tryz.prog 61 args B r B' := by
  unfold kindH at h
  split at h
  · rename_i k
    split at h
    · rename_i hc
      cases h
      refine spec_below (V := fun _ _ => True) (us := [.int .i64 k]) (enter_of Tryz.func61 rfl rfl) (fun γ ω w vs hl hv => ?_) (fun ω w _ _ => ?_)
      · obtain ⟨v0, rfl⟩ : ∃ v0, vs = [v0] := by
          match vs, hl with
          | [a], _ => exact ⟨a, rfl⟩
        have r0 := hv 0 (.int .i64 k) v0 rfl rfl
        cases r0
        rfl
      · refine (kind_calls k hc w).mono fun e w' ⟨he, hb⟩ => ⟨_, he, by rw [hb]; exact Go.RowKit.Below.refl _ _, .str _⟩
    · cases h
  · cases h
end Go.Pv

