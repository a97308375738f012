/- Equations of functions. Printed by he.py. -/
import Derived.Test.YtlfbfhgoehndpaaGreatDoorZ1
import Derived.Test.YtlfbfhgoehndpaaGreatDoorHU
import Derived.Test.YtlfbfhgoehndpaaGreatDoorZ0
set_option maxRecDepth 100000
set_option linter.unusedVariables false
set_option linter.unusedSimpArgs false
namespace Go.Pv
open Go Go.Proofs
noncomputable abbrev chaseref2_FamiliesOf_L1 (fu n k1 : Nat) (v1_0 : List (List MV)) (v4 : List (List MV)) (v15 : Int) (v16 : Int) (b0_0_0_0 : List (List MV)) : Out := lps (env fu) (evs fu n) 0 Tryz.f32 fp32 [1, 1, 1, 0, 1, 0] [] k1 ⟨[(1, .cptr [.list v1_0] 0), (3, .ptr 0 0), (4, .ref 1), (15, .int .i64 v15), (16, .int .i64 v16)], [some (.box [.fn 81 [.cptr [.list b0_0_0_0] 0]]), some (.row false 1 v4 [])]⟩
noncomputable abbrev chaseref2_FamiliesOf_L2 (fu n k1 : Nat) (v1_0 : List (List MV)) (v6 : List (List MV)) (v27 : List (List MV)) (v28 : Int) (v29 : Int) : Out := lps (env fu) (evs fu n) 0 Tryz.f32 fp32 [1, 1, 1, 1, 1, 1, 0, 1, 0] [] k1 ⟨[(1, .cptr [.list v1_0] 0), (6, .ref 0), (27, .ref 1), (28, .int .i64 v28), (29, .int .i64 v29)], [some (.row true 2 v6 []), some (.row false 1 v27 [])]⟩
noncomputable abbrev chaseref2_FamiliesOf_J1 (fu n k1 : Nat) (v1_0 : List (List MV)) (v6 : List (List MV)) (v8 : Int) (v27 : List (List MV)) (v28 : Int) (v29 : Int) : Out := nxt (jmp (env fu) (evs fu n) 0 Tryz.f32 fp32 [1, 1, 1, 1, 1, 1, 0, 1, 0, 0, 1, 1, 0, 0, 1, 1, 9] [k1]) ⟨[(1, .cptr [.list v1_0] 0), (6, .ref 0), (8, .int .i64 v8), (27, .ref 1), (28, .int .i64 v28), (29, .int .i64 v29)], [some (.row true 2 v6 []), some (.row false 1 v27 [])]⟩
theorem chaseref2_FamiliesOf_L1_eq (fu n k1 : Nat) (v1_0 : List (List MV)) (v4 : List (List MV)) (v15 : Int) (v16 : Int) (b0_0_0_0 : List (List MV)) : chaseref2_FamiliesOf_L1 fu n (k1 + 1) v1_0 v4 v15 v16 b0_0_0_0 = (cnd (decide (v16 < v15)) (ixG (List.length v4) v16 (rdN v4 (Int.toNat v16) fun e1 => (chaseref2_FamiliesOf_L1 fu n k1 v1_0 (List.set v4 (Int.toNat v16) (ovr e1 0 ([.int .i64 v16] : List MV))) v15 (IntKind.i64.wrap (v16 + (1 : Int))) b0_0_0_0))) (callE (ev fu n 83 [.ref 0, .fn 84 [.cptr [.fn 81 [.cptr [.list b0_0_0_0] 0]] 0]] [some (.row false 1 v4 [])]) fun r2 B3 => (unX B3 fun o4 B5 => (dRw false 1 o4 fun x6 => (unXN B5 (unN r2 (chaseref2_FamiliesOf_L2 fu n fu v1_0 ([] : List (List MV)) x6 ((List.length x6 : Nat) : Int) (0 : Int)))))))) := by kernel_rfl
theorem chaseref2_FamiliesOf_L2_eq (fu n k1 : Nat) (v1_0 : List (List MV)) (v6 : List (List MV)) (v27 : List (List MV)) (v28 : Int) (v29 : Int) : chaseref2_FamiliesOf_L2 fu n (k1 + 1) v1_0 v6 v27 v28 v29 = (cnd (decide (v29 < v28)) (ixG (List.length v27) v29 (rdN v27 (Int.toNat v29) fun e1 => (cel e1 0 fun m2 => (dI .i64 m2 fun x3 => (rd v1_0 x3 fun e4 => gd (List.length e4 = 7) (cel e4 5 fun m5 => (dS m5 fun x6 => (cnd (decide (x6 = (⟨#[]⟩ : ByteArray))) (rd v1_0 x3 fun e7 => gd (List.length e7 = 7) (cel e7 0 fun m8 => (dS m8 fun x9 => (gL (List.length v6 + List.length ([[.str x9, .nil]] : List (List MV))) (chaseref2_FamiliesOf_J1 fu n k1 v1_0 (v6 ++ ([[.str x9, .nil]] : List (List MV))) x3 v27 v28 v29))))) (chaseref2_FamiliesOf_J1 fu n k1 v1_0 v6 x3 v27 v28 v29))))))))) (some ([.ref 0], [some (.row true 2 v6 [])]))) := by kernel_rfl
theorem chaseref2_FamiliesOf_J1_eq (fu n k1 : Nat) (v1_0 : List (List MV)) (v6 : List (List MV)) (v8 : Int) (v27 : List (List MV)) (v28 : Int) (v29 : Int) : chaseref2_FamiliesOf_J1 fu n k1 v1_0 v6 v8 v27 v28 v29 = (ixG (List.length v6) (IntKind.i64.wrap (((List.length v6 : Nat) : Int) - (1 : Int))) (rd v1_0 v8 fun e1 => gd (List.length e1 = 7) (cel e1 0 fun m2 => (dS m2 fun x3 => (eqM (.eref 0 2 (Int.toNat (IntKind.i64.wrap (((List.length v6 : Nat) : Int) - (1 : Int)))) 0) (.eref 0 2 (Int.toNat (IntKind.i64.wrap (((List.length v6 : Nat) : Int) - (1 : Int)))) 0) (eqM (.eref 0 2 (Int.toNat (IntKind.i64.wrap (((List.length v6 : Nat) : Int) - (1 : Int)))) 1) (.eref 0 2 (Int.toNat (IntKind.i64.wrap (((List.length v6 : Nat) : Int) - (1 : Int)))) 1) (eqO (rdN v6 (Int.toNat (IntKind.i64.wrap (((List.length v6 : Nat) : Int) - (1 : Int)))) fun e4 => (hdE 1 e4 1 fun h5 => (eqM (.eref 0 2 (Int.toNat (IntKind.i64.wrap (((List.length v6 : Nat) : Int) - (1 : Int)))) 0) (.eref 0 2 (Int.toNat (IntKind.i64.wrap (((List.length v6 : Nat) : Int) - (1 : Int)))) 0) (eqM (.eref 0 2 (Int.toNat (IntKind.i64.wrap (((List.length v6 : Nat) : Int) - (1 : Int)))) 0) (.eref 0 2 (Int.toNat (IntKind.i64.wrap (((List.length v6 : Nat) : Int) - (1 : Int)))) 0) (gL (List.length h5 + List.length ([[.str x3]] : List (List MV))) (eqM (.eref 0 2 (Int.toNat (IntKind.i64.wrap (((List.length v6 : Nat) : Int) - (1 : Int)))) 0) (.eref 0 2 (Int.toNat (IntKind.i64.wrap (((List.length v6 : Nat) : Int) - (1 : Int)))) 0) (eqM (.eref 0 2 (Int.toNat (IntKind.i64.wrap (((List.length v6 : Nat) : Int) - (1 : Int)))) 0) (.eref 0 2 (Int.toNat (IntKind.i64.wrap (((List.length v6 : Nat) : Int) - (1 : Int)))) 0) (eqM (.eref 0 2 (Int.toNat (IntKind.i64.wrap (((List.length v6 : Nat) : Int) - (1 : Int)))) 1) (.eref 0 2 (Int.toNat (IntKind.i64.wrap (((List.length v6 : Nat) : Int) - (1 : Int)))) 1) (rdN v6 (Int.toNat (IntKind.i64.wrap (((List.length v6 : Nat) : Int) - (1 : Int)))) fun e6 => (gd ((Int.toNat (IntKind.i64.wrap (((List.length v6 : Nat) : Int) - (1 : Int)))) = (Int.toNat (IntKind.i64.wrap (((List.length v6 : Nat) : Int) - (1 : Int))))) (eqM (.eref 0 2 (Int.toNat (IntKind.i64.wrap (((List.length v6 : Nat) : Int) - (1 : Int)))) 0) (.eref 0 2 (Int.toNat (IntKind.i64.wrap (((List.length v6 : Nat) : Int) - (1 : Int)))) 0) (chaseref2_FamiliesOf_L2 fu n k1 v1_0 (List.set v6 (Int.toNat (IntKind.i64.wrap (((List.length v6 : Nat) : Int) - (1 : Int)))) (List.set e6 1 (.hold false 1 (.list (h5 ++ ([[.str x3]] : List (List MV))))))) v27 v28 (IntKind.i64.wrap (v29 + (1 : Int))))))))))))))) (eqM (.eref 0 2 (Int.toNat (IntKind.i64.wrap (((List.length v6 : Nat) : Int) - (1 : Int)))) 1) (.eref 0 2 (Int.toNat (IntKind.i64.wrap (((List.length v6 : Nat) : Int) - (1 : Int)))) 1) (eqM (.eref 0 2 (Int.toNat (IntKind.i64.wrap (((List.length v6 : Nat) : Int) - (1 : Int)))) 0) (.eref 0 2 (Int.toNat (IntKind.i64.wrap (((List.length v6 : Nat) : Int) - (1 : Int)))) 0) (rdN v6 (Int.toNat (IntKind.i64.wrap (((List.length v6 : Nat) : Int) - (1 : Int)))) fun e7 => (hdE 1 e7 1 fun h8 => (eqM (.eref 0 2 (Int.toNat (IntKind.i64.wrap (((List.length v6 : Nat) : Int) - (1 : Int)))) 0) (.eref 0 2 (Int.toNat (IntKind.i64.wrap (((List.length v6 : Nat) : Int) - (1 : Int)))) 0) (gL (List.length h8 + List.length ([[.str x3]] : List (List MV))) (eqM (.eref 0 2 (Int.toNat (IntKind.i64.wrap (((List.length v6 : Nat) : Int) - (1 : Int)))) 0) (.eref 0 2 (Int.toNat (IntKind.i64.wrap (((List.length v6 : Nat) : Int) - (1 : Int)))) 0) (eqM (.eref 0 2 (Int.toNat (IntKind.i64.wrap (((List.length v6 : Nat) : Int) - (1 : Int)))) 0) (.eref 0 2 (Int.toNat (IntKind.i64.wrap (((List.length v6 : Nat) : Int) - (1 : Int)))) 0) (eqM (.eref 0 2 (Int.toNat (IntKind.i64.wrap (((List.length v6 : Nat) : Int) - (1 : Int)))) 1) (.eref 0 2 (Int.toNat (IntKind.i64.wrap (((List.length v6 : Nat) : Int) - (1 : Int)))) 1) (rdN v6 (Int.toNat (IntKind.i64.wrap (((List.length v6 : Nat) : Int) - (1 : Int)))) fun e9 => (gd ((Int.toNat (IntKind.i64.wrap (((List.length v6 : Nat) : Int) - (1 : Int)))) = (Int.toNat (IntKind.i64.wrap (((List.length v6 : Nat) : Int) - (1 : Int))))) (eqM (.eref 0 2 (Int.toNat (IntKind.i64.wrap (((List.length v6 : Nat) : Int) - (1 : Int)))) 0) (.eref 0 2 (Int.toNat (IntKind.i64.wrap (((List.length v6 : Nat) : Int) - (1 : Int)))) 0) (chaseref2_FamiliesOf_L2 fu n k1 v1_0 (List.set v6 (Int.toNat (IntKind.i64.wrap (((List.length v6 : Nat) : Int) - (1 : Int)))) (List.set e9 1 (.hold false 1 (.list (h8 ++ ([[.str x3]] : List (List MV))))))) v27 v28 (IntKind.i64.wrap (v29 + (1 : Int))))))))))))))))))))))) := by kernel_rfl
theorem chaseref2_FamiliesOf_eq (fu n : Nat) (a0 : List (List MV)) : ev fu (n + 1) 32 [.list a0] [] = (gd (0 ≤ ((List.length a0 : Nat) : Int) ∧ ((List.length a0 : Nat) : Int) ≤ 1000000000) (chaseref2_FamiliesOf_L1 fu n fu a0 (List.replicate (Int.toNat ((List.length a0 : Nat) : Int)) ([.int .i64 (0 : Int)] : List MV)) ((List.length (List.replicate (Int.toNat ((List.length a0 : Nat) : Int)) ([.int .i64 (0 : Int)] : List MV)) : Nat) : Int) (0 : Int) a0)) := evalF_seg rfl Tryz.func32 rfl rfl rfl rfl (by kernel_rfl)
theorem chasemake_Stream_Next_eq (fu n : Nat) (p0_0 : List (List MV)) (p0_1 : Int) (a1 : Int) : ev fu (n + 1) 19 [.ptr 0 0, .int .i64 a1] [some (.box [.list p0_0, .int .i64 p0_1])] = (cnd (decide (((List.length p0_0 : Nat) : Int) = (0 : Int))) (rI .i64 (ev fu n 71 [.int .i64 (IntKind.i64.wrap ((IntKind.i64.wrap (p0_1 + (1 : Int))) * (7919 : Int))), .int .i64 a1] []) fun x1 => (some ([.int .i64 x1], [some (.box [.list p0_0, .int .i64 (IntKind.i64.wrap (p0_1 + (1 : Int)))])]))) (eqM (.int .i64 (IntKind.i64.wrap (p0_1 + (1 : Int)))) (.int .i64 (IntKind.i64.wrap (p0_1 + (1 : Int)))) (eqM (.int .i64 (IntKind.i64.wrap ((IntKind.i64.wrap (p0_1 + (1 : Int))) - (1 : Int)))) (.int .i64 (IntKind.i64.wrap ((IntKind.i64.wrap (p0_1 + (1 : Int))) - (1 : Int)))) (eqM (.list p0_0) (.list p0_0) (eqM (.int .i64 ((List.length p0_0 : Nat) : Int)) (.int .i64 ((List.length p0_0 : Nat) : Int)) (gd (((List.length p0_0 : Nat) : Int) ≠ 0) (gd (((List.length p0_0 : Nat) : Int) ≠ 0) (eqM (.int .i64 (Int.tmod (IntKind.i64.wrap ((IntKind.i64.wrap (p0_1 + (1 : Int))) - (1 : Int))) ((List.length p0_0 : Nat) : Int))) (.int .i64 (Int.tmod (IntKind.i64.wrap ((IntKind.i64.wrap (p0_1 + (1 : Int))) - (1 : Int))) ((List.length p0_0 : Nat) : Int))) (eqM (.int .i64 (IntKind.i64.wrap (p0_1 + (1 : Int)))) (.int .i64 (IntKind.i64.wrap (p0_1 + (1 : Int)))) (eqM (.int .i64 (IntKind.i64.wrap ((IntKind.i64.wrap (p0_1 + (1 : Int))) - (1 : Int)))) (.int .i64 (IntKind.i64.wrap ((IntKind.i64.wrap (p0_1 + (1 : Int))) - (1 : Int)))) (eqM (.list p0_0) (.list p0_0) (eqM (.int .i64 ((List.length p0_0 : Nat) : Int)) (.int .i64 ((List.length p0_0 : Nat) : Int)) (gd (((List.length p0_0 : Nat) : Int) ≠ 0) (gd (((List.length p0_0 : Nat) : Int) ≠ 0) (eqM (.int .i64 (IntKind.i64.wrap (Int.tdiv (IntKind.i64.wrap ((IntKind.i64.wrap (p0_1 + (1 : Int))) - (1 : Int))) ((List.length p0_0 : Nat) : Int)))) (.int .i64 (IntKind.i64.wrap (Int.tdiv (IntKind.i64.wrap ((IntKind.i64.wrap (p0_1 + (1 : Int))) - (1 : Int))) ((List.length p0_0 : Nat) : Int)))) (rd p0_0 (Int.tmod (IntKind.i64.wrap ((IntKind.i64.wrap (p0_1 + (1 : Int))) - (1 : Int))) ((List.length p0_0 : Nat) : Int)) fun e2 => gd (List.length e2 = 1) (cel e2 0 fun m3 => (dI .i64 m3 fun x4 => (rI .i64 (ev fu n 71 [.int .i64 x4, .int .i64 (1073741824 : Int)] []) fun x5 => (rI .i64 (ev fu n 71 [.int .i64 (IntKind.i64.wrap (x5 + (IntKind.i64.wrap ((IntKind.i64.wrap (Int.tdiv (IntKind.i64.wrap ((IntKind.i64.wrap (p0_1 + (1 : Int))) - (1 : Int))) ((List.length p0_0 : Nat) : Int))) * (IntKind.i64.wrap ((7919 : Int) + (Int.tmod (IntKind.i64.wrap ((IntKind.i64.wrap (p0_1 + (1 : Int))) - (1 : Int))) ((List.length p0_0 : Nat) : Int)))))))), .int .i64 a1] []) fun x6 => (some ([.int .i64 x6], [some (.box [.list p0_0, .int .i64 (IntKind.i64.wrap (p0_1 + (1 : Int)))])])))))))))))))))))))))) := evalF_seg rfl Tryz.func19 rfl rfl rfl rfl (by kernel_rfl)
theorem intake_CheckItem_eq (fu n : Nat) (a0_0 : ByteArray) (a0_1 : ByteArray) (a0_2 : Int) (a0_3 : ByteArray) (a0_4 : Int) (a0_5 : ByteArray) (a0_6 : ByteArray) : ev fu (n + 1) 13 [.agg [.str a0_0, .str a0_1, .int .i64 a0_2, .str a0_3, .int .i64 a0_4, .str a0_5, .str a0_6]] [] = (rB (ev fu n 55 [.str a0_0] []) fun x1 => (cnd (!x1) (some ([.int .i64 (5 : Int)], [])) (rB (ev fu n 55 [.str a0_1] []) fun x2 => (cnd (!x2) (some ([.int .i64 (5 : Int)], [])) (rS (ev fu n 56 [.int .i64 a0_2] []) fun x3 => (cnd (decide (x3 = (⟨#[]⟩ : ByteArray))) (some ([.int .i64 (4 : Int)], [])) (cnd (decide ((120 : Int) < ((a0_3).size : Int))) (some ([.int .i64 (2 : Int)], [])) (rB (ev fu n 57 [.str a0_3] []) fun x4 => (cnd (!x4) (some ([.int .i64 (3 : Int)], [])) (rB (ev fu n 58 [.int .i64 a0_4] []) fun x5 => (cnd (!x5) (some ([.int .i64 (1 : Int)], [])) (cnd (!decide (a0_5 = (⟨#[]⟩ : ByteArray))) (rB (ev fu n 55 [.str a0_5] []) fun x6 => (cnd (!x6) (some ([.int .i64 (5 : Int)], [])) (cnd (decide (a0_5 = a0_0)) (some ([.int .i64 (14 : Int)], [])) (cnd (decide ((20000 : Int) < ((a0_6).size : Int))) (some ([.int .i64 (2 : Int)], [])) (rB (ev fu n 59 [.str a0_6] []) fun x7 => (cnd (!x7) (some ([.int .i64 (3 : Int)], [])) (some ([.int .i64 (0 : Int)], [])))))))) (cnd (decide (a0_5 = a0_0)) (some ([.int .i64 (14 : Int)], [])) (cnd (decide ((20000 : Int) < ((a0_6).size : Int))) (some ([.int .i64 (2 : Int)], [])) (rB (ev fu n 59 [.str a0_6] []) fun x8 => (cnd (!x8) (some ([.int .i64 (3 : Int)], [])) (some ([.int .i64 (0 : Int)], [])))))))))))))))))) := evalF_seg rfl Tryz.func13 rfl rfl rfl rfl (by kernel_rfl)
theorem chasemake_Stream_Range_eq (fu n : Nat) (p0_0 : List (List MV)) (p0_1 : Int) (a1 : Int) (a2 : Int) : ev fu (n + 1) 9 [.ptr 0 0, .int .i64 a1, .int .i64 a2] [some (.box [.list p0_0, .int .i64 p0_1])] = (cnd (decide (a2 < a1)) (some ([.int .i64 a1], [some (.box [.list p0_0, .int .i64 p0_1])])) (skI .i64 (ev fu n 19 [.ptr 0 0, .int .i64 (IntKind.i64.wrap ((IntKind.i64.wrap (a2 - a1)) + (1 : Int)))] [some (.box [.list p0_0, .int .i64 p0_1])]) fun l3 a4 x5 => (some ([.int .i64 (IntKind.i64.wrap (a1 + x5))], [some (.box [.list l3, .int .i64 a4])])))) := evalF_seg rfl Tryz.func9 rfl rfl rfl rfl (by kernel_rfl)
theorem chaseref2_FamiliesOf_2_eq (fu n : Nat) (a0 : Int) (a1 : Int) (q0 : List MV) : ev fu (n + 1) 84 [.int .i64 a0, .int .i64 a1, .cptr q0 0] [] = (cel q0 0 fun m1 => (dF m1 fun f2 c3 => (cel q0 0 fun m4 => (dF m4 fun f5 c6 => (npG ([.int .i64 a0] ++ c3) (rL (ev fu n f2 ([.int .i64 a0] ++ c3) []) fun x7 => (npG ([.int .i64 a1] ++ c6) (rL (ev fu n f5 ([.int .i64 a1] ++ c6) []) fun x8 => (rI .i64 (ev fu n 85 [.list x7, .list x8] []) fun x9 => (some ([.int .i64 x9], []))))))))))) := evalF_seg rfl Tryz.func84 rfl rfl rfl rfl (by kernel_rfl)
theorem chasemake_Below_eq (fu n : Nat) (a0 : Int) (a1 : Int) : ev fu (n + 1) 71 [.int .i64 a0, .int .i64 a1] [] = (cnd (decide (a1 < (1 : Int))) (some ([.int .i64 (0 : Int)], [])) (gd (a1 ≠ 0) (cnd (decide ((Int.tmod a0 a1) < (0 : Int))) (some ([.int .i64 (IntKind.i64.wrap ((Int.tmod a0 a1) + a1))], [])) (some ([.int .i64 (Int.tmod a0 a1)], []))))) := evalF_seg rfl Tryz.func71 rfl rfl rfl rfl (by kernel_rfl)
theorem chaseref2_in_eq (fu n : Nat) (a0 : Int) (a1 : Int) (a2 : Int) : ev fu (n + 1) 52 [.int .i64 a0, .int .i64 a1, .int .i64 a2] [] = (cnd (decide (a1 ≤ a0)) (some ([.bool (decide (a0 ≤ a2))], [])) (some ([.bool false], []))) := evalF_seg rfl Tryz.func52 rfl rfl rfl rfl (by kernel_rfl)
theorem strings_Contains_eq (fu n : Nat) (a0 : ByteArray) (a1 : ByteArray) : ev fu (n + 1) 100 [.str a0, .str a1] [] = (rI .i64 (ev fu n 134 [.str a0, .str a1] []) fun x1 => (some ([.bool (decide ((0 : Int) ≤ x1))], []))) := evalF_seg rfl Tryz.func100 rfl rfl rfl rfl (by kernel_rfl)
end Go.Pv
/- Equations of functions. Printed by he.py. -/
namespace Go.Pv
open Go Go.Proofs
noncomputable abbrev chaseref2_ItemsFault_L1 (fu n k1 : Nat) (v0 : List (List MV)) (v3 : ByteArray) (v12 : List (List MV)) (v13 : Int) (v14 : Int) : Out := lps (env fu) (evs fu n) 0 Tryz.f16 fp16 [1, 1, 1, 0, 1, 0] [] k1 ⟨[(0, .list v0), (3, .str v3), (12, .list v12), (13, .int .i64 v13), (14, .int .i64 v14)], []⟩
noncomputable abbrev chaseref2_ItemsFault_L2 (fu n k1 : Nat) (v0 : List (List MV)) (v30 : List (List MV)) (v31 : Int) (v32 : Int) : Out := lps (env fu) (evs fu n) 0 Tryz.f16 fp16 [1, 1, 1, 1, 0, 1, 0] [] k1 ⟨[(0, .list v0), (30, .list v30), (31, .int .i64 v31), (32, .int .i64 v32)], []⟩
theorem chaseref2_ItemsFault_L1_eq (fu n k1 : Nat) (v0 : List (List MV)) (v3 : ByteArray) (v12 : List (List MV)) (v13 : Int) (v14 : Int) : chaseref2_ItemsFault_L1 fu n (k1 + 1) v0 v3 v12 v13 v14 = (cnd (decide (v14 < v13)) (rd v12 v14 fun e1 => gd (List.length e1 = 7) (gd (0 + 7 ≤ List.length e1) (unC (List.take 7 (List.drop 0 e1)) fun m2 c3 => (dS m2 fun x4 => (unC c3 fun m5 c6 => (dS m5 fun x7 => (unC c6 fun m8 c9 => (dI .i64 m8 fun x10 => (unC c9 fun m11 c12 => (dS m11 fun x13 => (unC c12 fun m14 c15 => (dI .i64 m14 fun x16 => (unC c15 fun m17 c18 => (dS m17 fun x19 => (unC c18 fun m20 c21 => (dS m20 fun x22 => (unN c21 (rI .i64 (ev fu n 12 [.agg [.str x4, .str x7, .int .i64 x10, .str x13, .int .i64 x16, .str x19, .str x22]] []) fun x23 => (cnd (!decide (x23 = (0 : Int))) (some ([.int .i64 x23], [])) (cnd (sless x4 v3 || decide (x4 = v3)) (some ([.int .i64 (7 : Int)], [])) (chaseref2_ItemsFault_L1 fu n k1 v0 x4 v12 v13 (IntKind.i64.wrap (v14 + (1 : Int)))))))))))))))))))))))) (chaseref2_ItemsFault_L2 fu n fu v0 v0 ((List.length v0 : Nat) : Int) (0 : Int))) := by kernel_rfl
theorem chaseref2_ItemsFault_L2_eq (fu n k1 : Nat) (v0 : List (List MV)) (v30 : List (List MV)) (v31 : Int) (v32 : Int) : chaseref2_ItemsFault_L2 fu n (k1 + 1) v0 v30 v31 v32 = (cnd (decide (v32 < v31)) (rd v30 v32 fun e1 => gd (List.length e1 = 7) (gd (0 + 7 ≤ List.length e1) (unC (List.take 7 (List.drop 0 e1)) fun m2 c3 => (dS m2 fun x4 => (unC c3 fun m5 c6 => (dS m5 fun x7 => (unC c6 fun m8 c9 => (dI .i64 m8 fun x10 => (unC c9 fun m11 c12 => (dS m11 fun x13 => (unC c12 fun m14 c15 => (dI .i64 m14 fun x16 => (unC c15 fun m17 c18 => (dS m17 fun x19 => (unC c18 fun m20 c21 => (dS m20 fun x22 => (unN c21 (cnd (!decide (x19 = (⟨#[]⟩ : ByteArray))) (rI .i64 (ev fu n 67 [.list v0, .str x19] []) fun x23 => (cnd (decide (x23 < (0 : Int))) (some ([.int .i64 (8 : Int)], [])) (chaseref2_ItemsFault_L2 fu n k1 v0 v30 v31 (IntKind.i64.wrap (v32 + (1 : Int)))))) (chaseref2_ItemsFault_L2 fu n k1 v0 v30 v31 (IntKind.i64.wrap (v32 + (1 : Int)))))))))))))))))))))) (rI .i64 (ev fu n 68 [.list v0] []) fun x24 => (some ([.int .i64 x24], [])))) := by kernel_rfl
theorem chaseref2_ItemsFault_eq (fu n : Nat) (a0 : List (List MV)) : ev fu (n + 1) 16 [.list a0] [] = (cnd (decide ((2000 : Int) < ((List.length a0 : Nat) : Int))) (some ([.int .i64 (2 : Int)], [])) (chaseref2_ItemsFault_L1 fu n fu a0 (⟨#[]⟩ : ByteArray) a0 ((List.length a0 : Nat) : Int) (0 : Int))) := evalF_seg rfl Tryz.func16 rfl rfl rfl rfl (by kernel_rfl)
noncomputable abbrev slices_IndexFunc_Sstring_string_L1 (fu n k1 : Nat) (v0 : List (List MV)) (v1f : FuncId) (v1c : List MV) (v7 : Int) (v8 : Int) : Out := lps (env fu) (evs fu n) 0 Tryz.f120 fp120 [1, 0, 1, 0] [] k1 ⟨[(0, .list v0), (1, .fn v1f v1c), (7, .int .i64 v7), (8, .int .i64 v8)], []⟩
theorem slices_IndexFunc_Sstring_string_L1_eq (fu n k1 : Nat) (v0 : List (List MV)) (v1f : FuncId) (v1c : List MV) (v7 : Int) (v8 : Int) : slices_IndexFunc_Sstring_string_L1 fu n (k1 + 1) v0 v1f v1c v7 v8 = (cnd (decide (v8 < v7)) (rd v0 v8 fun e1 => gd (List.length e1 = 1) (cel e1 0 fun m2 => (dS m2 fun x3 => (npG ([.str x3] ++ v1c) (rB (ev fu n v1f ([.str x3] ++ v1c) []) fun x4 => (cnd x4 (some ([.int .i64 v8], [])) (slices_IndexFunc_Sstring_string_L1 fu n k1 v0 v1f v1c v7 (IntKind.i64.wrap (v8 + (1 : Int)))))))))) (some ([.int .i64 (-1 : Int)], []))) := by kernel_rfl
theorem slices_IndexFunc_Sstring_string_eq (fu n : Nat) (a0 : List (List MV)) (a1f : FuncId) (a1c : List MV) : ev fu (n + 1) 120 [.list a0, .fn a1f a1c] [] = (slices_IndexFunc_Sstring_string_L1 fu n fu a0 a1f a1c ((List.length a0 : Nat) : Int) (0 : Int)) := evalF_seg rfl Tryz.func120 rfl rfl rfl rfl (by kernel_rfl)
theorem chaseref2_Key_eq (fu n : Nat) (a0 : ByteArray) : ev fu (n + 1) 26 [.str a0] [] = (rB (ev fu n 52 [.int .i64 ((a0).size : Int), .int .i64 (1 : Int), .int .i64 (40 : Int)] []) fun x1 => (cnd x1 (slS a0 ((0 : Nat) : Int) (1 : Int) fun s2 => (rB (ev fu n 75 [.str s2, .str (⟨#[97, 98, 99, 100, 101, 102, 103, 104, 105, 106, 107, 108, 109, 110, 111, 112, 113, 114, 115, 116, 117, 118, 119, 120, 121, 122]⟩ : ByteArray)] []) fun x3 => (cnd x3 (rB (ev fu n 75 [.str a0, .str (⟨#[97, 98, 99, 100, 101, 102, 103, 104, 105, 106, 107, 108, 109, 110, 111, 112, 113, 114, 115, 116, 117, 118, 119, 120, 121, 122, 48, 49, 50, 51, 52, 53, 54, 55, 56, 57, 45, 95]⟩ : ByteArray)] []) fun x4 => (some ([.bool x4], []))) (some ([.bool false], []))))) (some ([.bool false], [])))) := evalF_seg rfl Tryz.func26 rfl rfl rfl rfl (by kernel_rfl)
theorem slices_SortFunc_Sint_int_eq (fu n : Nat) (a0 : List (List MV)) (a1f : FuncId) (a1c : List MV) : ev fu (n + 1) 83 [.ref 0, .fn a1f a1c] [some (.row false 1 a0 [])] = (rI .i64 (ev fu n 117 [.int .u64 (IntKind.u64.wrap ((List.length a0 : Nat) : Int))] []) fun x1 => (npG a1c (callE (ev fu n 118 [.ref 0, .int .i64 (0 : Int), .int .i64 ((List.length a0 : Nat) : Int), .int .i64 x1, .fn a1f a1c] [some (.row false 1 a0 [])]) fun r2 B3 => (unX B3 fun o4 B5 => (dRw false 1 o4 fun x6 => (unXN B5 (unN r2 (some ([], [some (.row false 1 x6 [])]))))))))) := evalF_seg rfl Tryz.func83 rfl rfl rfl rfl (by kernel_rfl)
theorem intake_kindWord_eq (fu n : Nat) (a0 : Int) : ev fu (n + 1) 56 [.int .i64 a0] [] = (cnd (decide (a0 = (1 : Int))) (some ([.str (⟨#[109, 97, 105, 108]⟩ : ByteArray)], [])) (cnd (decide (a0 = (2 : Int))) (some ([.str (⟨#[102, 105, 108, 101]⟩ : ByteArray)], [])) (cnd (decide (a0 = (3 : Int))) (some ([.str (⟨#[98, 111, 120]⟩ : ByteArray)], [])) (cnd (decide (a0 = (4 : Int))) (some ([.str (⟨#[110, 111, 116, 101]⟩ : ByteArray)], [])) (some ([.str (⟨#[]⟩ : ByteArray)], [])))))) := evalF_seg rfl Tryz.func56 rfl rfl rfl rfl (by kernel_rfl)
theorem base_Text_eq (fu n : Nat) (a0 : ByteArray) : ev fu (n + 1) 59 [.str a0] [] = (rB (ev fu n 104 [.str a0, .bool true] []) fun x1 => (cnd x1 (cnd (decide (a0 = (⟨#[]⟩ : ByteArray))) (some ([.bool true], [])) (rB (ev fu n 105 [.str a0, .str (⟨#[10]⟩ : ByteArray)] []) fun x2 => (some ([.bool x2], [])))) (some ([.bool false], [])))) := evalF_seg rfl Tryz.func59 rfl rfl rfl rfl (by kernel_rfl)
theorem slices_Contains_Sint_int_eq (fu n : Nat) (a0 : List (List MV)) (a1 : Int) : ev fu (n + 1) 136 [.list a0, .int .i64 a1] [] = (rI .i64 (ev fu n 167 [.list a0, .int .i64 a1] []) fun x1 => (some ([.bool (decide ((0 : Int) ≤ x1))], []))) := evalF_seg rfl Tryz.func136 rfl rfl rfl rfl (by kernel_rfl)
theorem base_small_eq (fu n : Nat) (a0 : Int) : ev fu (n + 1) 102 [.int .u8 a0] [] = (cnd (decide ((97 : Int) ≤ a0)) (some ([.bool (decide (a0 ≤ (122 : Int)))], [])) (some ([.bool false], []))) := evalF_seg rfl Tryz.func102 rfl rfl rfl rfl (by kernel_rfl)
end Go.Pv
/- Equations of functions. Printed by he.py. -/
namespace Go.Pv
open Go Go.Proofs
noncomputable abbrev chasemake_Stream_RightItems_L1 (fu n k1 : Nat) (v5 : List (List MV)) (v11 : Int) (v12 : Int) (b0_0 : List (List MV)) (b0_1 : Int) : Out := lps (env fu) (evs fu n) 1 Tryz.f44 fp44 [1, 1, 0, 1, 0] [] k1 ⟨[(0, .ptr 0 0), (5, .ref 1), (11, .int .i64 v11), (12, .int .i64 v12)], [some (.box [.list b0_0, .int .i64 b0_1]), some (.row false 7 v5 [])]⟩
noncomputable abbrev chasemake_Stream_RightItems_L2 (fu n k1 : Nat) (v5 : List (List MV)) (v40 : Int) (v41 : Int) (b0_0 : List (List MV)) (b0_1 : Int) : Out := lps (env fu) (evs fu n) 1 Tryz.f44 fp44 [1, 1, 1, 0, 1, 0] [] k1 ⟨[(0, .ptr 0 0), (5, .ref 1), (40, .int .i64 v40), (41, .int .i64 v41)], [some (.box [.list b0_0, .int .i64 b0_1]), some (.row false 7 v5 [])]⟩
theorem chasemake_Stream_RightItems_L1_eq (fu n k1 : Nat) (v5 : List (List MV)) (v11 : Int) (v12 : Int) (b0_0 : List (List MV)) (b0_1 : Int) : chasemake_Stream_RightItems_L1 fu n (k1 + 1) v5 v11 v12 b0_0 b0_1 = (cnd (decide (v12 < v11)) (rS (ev fu n 47 [.int .i64 v12] []) fun x1 => (callE (ev fu n 10 [.ptr 0 0, .str x1] [some (.box [.list b0_0, .int .i64 b0_1])]) fun r2 B3 => (unX B3 fun o4 B5 => (dBx o4 fun c6 => (unC c6 fun m7 c8 => (dL m7 fun x9 => (unC c8 fun m10 c11 => (dI .i64 m10 fun x12 => (unN c11 (unXN B5 (unC r2 fun m13 r14 => (dA m13 fun c15 => (unC c15 fun m16 c17 => (dS m16 fun x18 => (unC c17 fun m19 c20 => (dS m19 fun x21 => (unC c20 fun m22 c23 => (dI .i64 m22 fun x24 => (unC c23 fun m25 c26 => (dS m25 fun x27 => (unC c26 fun m28 c29 => (dI .i64 m28 fun x30 => (unC c29 fun m31 c32 => (dS m31 fun x33 => (unC c32 fun m34 c35 => (dS m34 fun x36 => (unN c35 (unN r14 (eqM (.str x18) (.str x18) (rS (ev fu n 47 [.int .i64 v12] []) fun x37 => (eqM (.str x18) (.str x18) (eqM (.bool (!decide (x18 = x37))) (.bool (!decide (x18 = x37))) (eqM (.bool (!decide (x18 = x37))) (.bool (!decide (x18 = x37))) (cnd (!decide (x18 = x37)) (eqM (.bool (!decide (x18 = x37))) (.bool true) (eqM (.bool (!decide (x18 = x37))) (.bool (!decide (x18 = x37))) (eqM (.str x18) (.str x18) (chasemake_Stream_RightItems_L1 fu n k1 v5 v11 (IntKind.i64.wrap (v12 + (1 : Int))) x9 x12)))) (eqM (.str x33) (.str x33) (eqM (.bool (!decide (x33 = (⟨#[]⟩ : ByteArray)))) (.bool (!decide (x33 = (⟨#[]⟩ : ByteArray)))) (eqM (.bool (!decide (x33 = (⟨#[]⟩ : ByteArray)))) (.bool (!decide (x33 = (⟨#[]⟩ : ByteArray)))) (eqM (.bool (!decide (x33 = (⟨#[]⟩ : ByteArray)))) (.bool (!decide (x33 = (⟨#[]⟩ : ByteArray)))) (cnd (!decide (x33 = (⟨#[]⟩ : ByteArray))) (eqM (.bool (!decide (x33 = (⟨#[]⟩ : ByteArray)))) (.bool (!decide (x33 = (⟨#[]⟩ : ByteArray)))) (eqM (.bool (!decide (x33 = (⟨#[]⟩ : ByteArray)))) (.bool (!decide (x33 = (⟨#[]⟩ : ByteArray)))) (eqM (.str x33) (.str x33) (eqM (.bool (!decide (x18 = x37))) (.bool false) (eqM (.bool (!decide (x18 = x37))) (.bool (!decide (x18 = x37))) (eqM (.str x18) (.str x18) (chasemake_Stream_RightItems_L1 fu n k1 v5 v11 (IntKind.i64.wrap (v12 + (1 : Int))) x9 x12))))))) (eqM (.agg [.str x18, .str x21, .int .i64 x24, .str x27, .int .i64 x30, .str x33, .str x36]) (.agg [.str x18, .str x21, .int .i64 x24, .str x27, .int .i64 x30, .str x33, .str x36]) (rI .i64 (ev fu n 12 [.agg [.str x18, .str x21, .int .i64 x24, .str x27, .int .i64 x30, .str x33, .str x36]] []) fun x38 => (eqM (.bool (!decide (x33 = (⟨#[]⟩ : ByteArray)))) (.bool (!decide (x33 = (⟨#[]⟩ : ByteArray)))) (eqM (.bool (!decide (x33 = (⟨#[]⟩ : ByteArray)))) (.bool (!decide (x33 = (⟨#[]⟩ : ByteArray)))) (eqM (.str x33) (.str x33) (eqM (.bool (!decide (x18 = x37))) (.bool false) (eqM (.bool (!decide (x18 = x37))) (.bool (!decide (x18 = x37))) (eqM (.str x18) (.str x18) (eqM (.bool (!decide (x38 = (0 : Int)))) (.bool (!decide (x38 = (0 : Int)))) (eqM (.bool (!decide (x38 = (0 : Int)))) (.bool (!decide (x38 = (0 : Int)))) (cnd (!decide (x38 = (0 : Int))) (chasemake_Stream_RightItems_L1 fu n k1 v5 v11 (IntKind.i64.wrap (v12 + (1 : Int))) x9 x12) (gL (List.length v5 + List.length ([[.str x18, .str x21, .int .i64 x24, .str x27, .int .i64 x30, .str x33, .str x36]] : List (List MV))) (chasemake_Stream_RightItems_L1 fu n k1 (v5 ++ ([[.str x18, .str x21, .int .i64 x24, .str x27, .int .i64 x30, .str x33, .str x36]] : List (List MV))) v11 (IntKind.i64.wrap (v12 + (1 : Int))) x9 x12)))))))))))))))))))))))))))))))))))))))))))))))))))) (chasemake_Stream_RightItems_L2 fu n fu v5 ((List.length v5 : Nat) : Int) (0 : Int) b0_0 b0_1)) := by kernel_rfl
theorem chasemake_Stream_RightItems_L2_eq (fu n k1 : Nat) (v5 : List (List MV)) (v40 : Int) (v41 : Int) (b0_0 : List (List MV)) (b0_1 : Int) : chasemake_Stream_RightItems_L2 fu n (k1 + 1) v5 v40 v41 b0_0 b0_1 = (cnd (decide (v41 < v40)) (skB (ev fu n 45 [.ptr 0 0, .int .i64 (2 : Int)] [some (.box [.list b0_0, .int .i64 b0_1])]) fun l3 a4 x5 => (cnd x5 (chasemake_Stream_RightItems_L2 fu n k1 v5 v40 (IntKind.i64.wrap (v41 + (1 : Int))) l3 a4) (skI .i64 (ev fu n 19 [.ptr 0 0, .int .i64 ((List.length v5 : Nat) : Int)] [some (.box [.list l3, .int .i64 a4])]) fun l8 a9 x10 => (ixG (List.length v5) v41 (rdN v5 (Int.toNat v41) fun e11 => (cel e11 5 fun m12 => (dS m12 fun x13 => (ixG (List.length v5) x10 (rdN v5 (Int.toNat x10) fun e14 => (cel e14 0 fun m15 => (dS m15 fun x16 => (ixG (List.length v5) v41 (rdN v5 (Int.toNat v41) fun e17 => (cnd (decide (x10 = v41)) (ixG (List.length (List.set v5 (Int.toNat v41) (ovr e17 5 ([.str x16] : List MV)))) v41 (rdN (List.set v5 (Int.toNat v41) (ovr e17 5 ([.str x16] : List MV))) (Int.toNat v41) fun e18 => (chasemake_Stream_RightItems_L2 fu n k1 (List.set (List.set v5 (Int.toNat v41) (ovr e17 5 ([.str x16] : List MV))) (Int.toNat v41) (ovr e18 5 ([.str x13] : List MV))) v40 (IntKind.i64.wrap (v41 + (1 : Int))) l8 a9))) (rI .i64 (ev fu n 16 [.list (List.set v5 (Int.toNat v41) (ovr e17 5 ([.str x16] : List MV)))] []) fun x19 => (cnd (!decide (x19 = (0 : Int))) (ixG (List.length (List.set v5 (Int.toNat v41) (ovr e17 5 ([.str x16] : List MV)))) v41 (rdN (List.set v5 (Int.toNat v41) (ovr e17 5 ([.str x16] : List MV))) (Int.toNat v41) fun e20 => (chasemake_Stream_RightItems_L2 fu n k1 (List.set (List.set v5 (Int.toNat v41) (ovr e17 5 ([.str x16] : List MV))) (Int.toNat v41) (ovr e20 5 ([.str x13] : List MV))) v40 (IntKind.i64.wrap (v41 + (1 : Int))) l8 a9))) (chasemake_Stream_RightItems_L2 fu n k1 (List.set v5 (Int.toNat v41) (ovr e17 5 ([.str x16] : List MV))) v40 (IntKind.i64.wrap (v41 + (1 : Int))) l8 a9))))))))))))))))) (some ([.ref 1], [some (.box [.list b0_0, .int .i64 b0_1]), some (.row false 7 v5 [])]))) := by kernel_rfl
theorem chasemake_Stream_RightItems_eq (fu n : Nat) (p0_0 : List (List MV)) (p0_1 : Int) (a1 : Int) : ev fu (n + 1) 44 [.ptr 0 0, .int .i64 a1] [some (.box [.list p0_0, .int .i64 p0_1])] = (chasemake_Stream_RightItems_L1 fu n fu ([] : List (List MV)) a1 (0 : Int) p0_0 p0_1) := evalF_seg rfl Tryz.func44 rfl rfl rfl rfl (by kernel_rfl)
noncomputable abbrev intake_newTree_L1 (fu n k1 : Nat) (v10 : List (List MV)) (v11 : Int) (v12 : Int) (b0_0 : List (MKey × MV)) (b0_1 : List (MKey × MV)) (b0_2 : List (List MV)) (b1_0 : List (MKey × MV)) (b1_1 : List (MKey × MV)) (b1_2 : List (List MV)) : Out := lps (env fu) (evs fu n) 0 Tryz.f79 fp79 [1, 1, 0, 1, 0, 9] [] k1 ⟨[(2, .ptr 0 0), (3, .ptr 1 0), (10, .list v10), (11, .int .i64 v11), (12, .int .i64 v12)], [some (.box [.map b0_0, .map b0_1, .list b0_2]), some (.box [.map b1_0, .ref 2, .ref 3]), some (.map true b1_1 []), some (.row false 1 b1_2 [])]⟩
theorem intake_newTree_L1_eq (fu n k1 : Nat) (v10 : List (List MV)) (v11 : Int) (v12 : Int) (b0_0 : List (MKey × MV)) (b0_1 : List (MKey × MV)) (b0_2 : List (List MV)) (b1_0 : List (MKey × MV)) (b1_1 : List (MKey × MV)) (b1_2 : List (List MV)) : intake_newTree_L1 fu n (k1 + 1) v10 v11 v12 b0_0 b0_1 b0_2 b1_0 b1_1 b1_2 = (cnd (decide (v12 < v11)) (rd v10 v12 fun e1 => gd (List.length e1 = 7) (gd (0 + 7 ≤ List.length e1) (unC (List.take 7 (List.drop 0 e1)) fun m2 c3 => (dS m2 fun x4 => (unC c3 fun m5 c6 => (dS m5 fun x7 => (unC c6 fun m8 c9 => (dI .i64 m8 fun x10 => (unC c9 fun m11 c12 => (dS m11 fun x13 => (unC c12 fun m14 c15 => (dI .i64 m14 fun x16 => (unC c15 fun m17 c18 => (dS m17 fun x19 => (unC c18 fun m20 c21 => (dS m20 fun x22 => (unN c21 (cnd (decide (x19 = (⟨#[]⟩ : ByteArray))) (gL (List.length b1_2 + List.length ([[.str x4]] : List (List MV))) (intake_newTree_L1 fu n k1 v10 v11 (IntKind.i64.wrap (v12 + (1 : Int))) b0_0 b0_1 b0_2 b1_0 b1_1 (b1_2 ++ ([[.str x4]] : List (List MV))))) (eqM (.str x19) (.str x19) (eqM (.str x19) (.str x19) (eqM (.str x4) (.str x4) (eqO (gK b1_1 (.str x19) (hdK 1 b1_1 (.str x19) fun h23 => (eqM (.str x4) (.str x4) (eqM (.str x19) (.str x19) (eqM (.str x19) (.str x19) (gL (List.length h23 + List.length ([[.str x4]] : List (List MV))) (eqM (.str x19) (.str x19) (gd ((mfix b1_1 (.str x19)) = (mfix b1_1 (.str x19))) (gK b1_1 (.str x19) (intake_newTree_L1 fu n k1 v10 v11 (IntKind.i64.wrap (v12 + (1 : Int))) b0_0 b0_1 b0_2 b1_0 (mset b1_1 (.str x19) (.hold false 1 (.list (h23 ++ ([[.str x4]] : List (List MV)))))) b1_2)))))))))) (eqM (.str x19) (.str x19) (eqM (.str x19) (.str x19) (gK b1_1 (.str x19) (hdK 1 b1_1 (.str x19) fun h24 => (eqM (.str x19) (.str x19) (gL (List.length h24 + List.length ([[.str x4]] : List (List MV))) (eqM (.str x19) (.str x19) (gd ((mfix b1_1 (.str x19)) = (mfix b1_1 (.str x19))) (gK b1_1 (.str x19) (intake_newTree_L1 fu n k1 v10 v11 (IntKind.i64.wrap (v12 + (1 : Int))) b0_0 b0_1 b0_2 b1_0 (mset b1_1 (.str x19) (.hold false 1 (.list (h24 ++ ([[.str x4]] : List (List MV)))))) b1_2)))))))))))))))))))))))))))))))) (some ([.agg [.map b1_0, .map (shE b1_1), .list b1_2]], []))) := by kernel_rfl
theorem intake_newTree_eq (fu n : Nat) (a0 : List (List MV)) : ev fu (n + 1) 79 [.list a0] [] = (rM (ev fu n 64 [.list a0] []) fun x1 => (intake_newTree_L1 fu n fu a0 ((List.length a0 : Nat) : Int) (0 : Int) [] [] ([] : List (List MV)) x1 ([] : List (MKey × MV)) ([] : List (List MV)))) := evalF_seg rfl Tryz.func79 rfl rfl rfl rfl (by kernel_rfl)
noncomputable abbrev intake_tree_top_L1 (fu n k1 : Nat) (v1 : ByteArray) (v2_0 : List (MKey × MV)) (v2_1 : List (MKey × MV)) (v2_2 : List (List MV)) : Out := lps (env fu) (evs fu n) 0 Tryz.f86 fp86 [1, 0, 0] [] k1 ⟨[(1, .str v1), (2, .cptr [.map v2_0, .map v2_1, .list v2_2] 0)], []⟩
theorem intake_tree_top_L1_eq (fu n k1 : Nat) (v1 : ByteArray) (v2_0 : List (MKey × MV)) (v2_1 : List (MKey × MV)) (v2_2 : List (List MV)) : intake_tree_top_L1 fu n (k1 + 1) v1 v2_0 v2_1 v2_2 = (gK v2_0 (.str v1) (mgE v2_0 (.str v1) (.agg [.str ByteArray.empty, .str ByteArray.empty, .int .i64 (0 : Int), .str ByteArray.empty, .int .i64 (0 : Int), .str ByteArray.empty, .str ByteArray.empty]) fun b1 m2 => (dA m2 fun c3 => (unC c3 fun m4 c5 => (dS m4 fun x6 => (unC c5 fun m7 c8 => (dS m7 fun x9 => (unC c8 fun m10 c11 => (dI .i64 m10 fun x12 => (unC c11 fun m13 c14 => (dS m13 fun x15 => (unC c14 fun m16 c17 => (dI .i64 m16 fun x18 => (unC c17 fun m19 c20 => (dS m19 fun x21 => (unC c20 fun m22 c23 => (dS m22 fun x24 => (unN c23 (cnd (!decide (x21 = (⟨#[]⟩ : ByteArray))) (gK v2_0 (.str v1) (mgE v2_0 (.str v1) (.agg [.str ByteArray.empty, .str ByteArray.empty, .int .i64 (0 : Int), .str ByteArray.empty, .int .i64 (0 : Int), .str ByteArray.empty, .str ByteArray.empty]) fun b25 m26 => (dA m26 fun c27 => (unC c27 fun m28 c29 => (dS m28 fun x30 => (unC c29 fun m31 c32 => (dS m31 fun x33 => (unC c32 fun m34 c35 => (dI .i64 m34 fun x36 => (unC c35 fun m37 c38 => (dS m37 fun x39 => (unC c38 fun m40 c41 => (dI .i64 m40 fun x42 => (unC c41 fun m43 c44 => (dS m43 fun x45 => (unC c44 fun m46 c47 => (dS m46 fun x48 => (unN c47 (intake_tree_top_L1 fu n k1 x45 v2_0 v2_1 v2_2))))))))))))))))))) (some ([.str v1], []))))))))))))))))))))) := by kernel_rfl
theorem intake_tree_top_eq (fu n : Nat) (a0_0 : List (MKey × MV)) (a0_1 : List (MKey × MV)) (a0_2 : List (List MV)) (a1 : ByteArray) : ev fu (n + 1) 86 [.agg [.map a0_0, .map a0_1, .list a0_2], .str a1] [] = (intake_tree_top_L1 fu n fu a1 a0_0 a0_1 a0_2) := evalF_seg rfl Tryz.func86 rfl rfl rfl rfl (by kernel_rfl)
noncomputable abbrev intake_tree_below_L1 (fu n k1 : Nat) (v2_0 : List (MKey × MV)) (v2_1 : List (MKey × MV)) (v2_2 : List (List MV)) (v5 : List (List MV)) (v13 : List (List MV)) (v14 : Int) (v15 : Int) : Out := lps (env fu) (evs fu n) 0 Tryz.f80 fp80 [1, 1, 0, 1, 0] [] k1 ⟨[(2, .cptr [.map v2_0, .map v2_1, .list v2_2] 0), (5, .ref 0), (13, .list v13), (14, .int .i64 v14), (15, .int .i64 v15)], [some (.row false 1 v5 [])]⟩
theorem intake_tree_below_L1_eq (fu n k1 : Nat) (v2_0 : List (MKey × MV)) (v2_1 : List (MKey × MV)) (v2_2 : List (List MV)) (v5 : List (List MV)) (v13 : List (List MV)) (v14 : Int) (v15 : Int) : intake_tree_below_L1 fu n (k1 + 1) v2_0 v2_1 v2_2 v5 v13 v14 v15 = (cnd (decide (v15 < v14)) (rd v13 v15 fun e1 => gd (List.length e1 = 1) (cel e1 0 fun m2 => (dS m2 fun x3 => (rO 1 (ev fu n 80 [.agg [.map v2_0, .map v2_1, .list v2_2], .str x3] []) fun x6 => (sB (wid 1 x6) (gL (List.length v5 + List.length x6) (intake_tree_below_L1 fu n k1 v2_0 v2_1 v2_2 (v5 ++ x6) v13 v14 (IntKind.i64.wrap (v15 + (1 : Int)))))))))) (some ([.ref 0], [some (.row false 1 v5 [])]))) := by kernel_rfl
theorem intake_tree_below_eq (fu n : Nat) (a0_0 : List (MKey × MV)) (a0_1 : List (MKey × MV)) (a0_2 : List (List MV)) (a1 : ByteArray) : ev fu (n + 1) 80 [.agg [.map a0_0, .map a0_1, .list a0_2], .str a1] [] = (gK a0_1 (.str a1) (mgE a0_1 (.str a1) (.nil) fun b1 m2 => (dL m2 fun x3 => (intake_tree_below_L1 fu n fu a0_0 a0_1 a0_2 ([[.str a1]] : List (List MV)) x3 ((List.length x3 : Nat) : Int) (0 : Int))))) := evalF_seg rfl Tryz.func80 rfl rfl rfl rfl (by kernel_rfl)
noncomputable abbrev slices_pdqsortCmpFunc_int_L1 (fu n k1 : Nat) (v0 : List (List MV)) (v1 : Int) (v2 : Int) (v3 : Int) (v4f : FuncId) (v4c : List MV) (v10 : Bool) (v11 : Bool) : Out := lps (env fu) (evs fu n) 1 Tryz.f118 fp118 [1, 1, 0] [] k1 ⟨[(0, .ref 0), (1, .int .i64 v1), (2, .int .i64 v2), (3, .int .i64 v3), (4, .fn v4f v4c), (10, .bool v10), (11, .bool v11)], [some (.row false 1 v0 [])]⟩
theorem slices_pdqsortCmpFunc_int_L1_eq (fu n k1 : Nat) (v0 : List (List MV)) (v1 : Int) (v2 : Int) (v3 : Int) (v4f : FuncId) (v4c : List MV) (v10 : Bool) (v11 : Bool) : slices_pdqsortCmpFunc_int_L1 fu n (k1 + 1) v0 v1 v2 v3 v4f v4c v10 v11 = (cnd (decide ((IntKind.i64.wrap (v2 - v1)) ≤ (12 : Int))) (npG v4c (callE (ev fu n 151 [.ref 0, .int .i64 v1, .int .i64 v2, .fn v4f v4c] [some (.row false 1 v0 [])]) fun r1 B2 => (unX B2 fun o3 B4 => (dRw false 1 o3 fun x5 => (unXN B4 (unN r1 (some ([], [some (.row false 1 x5 [])])))))))) none) := by kernel_rfl
theorem slices_pdqsortCmpFunc_int_eq (fu n : Nat) (a0 : List (List MV)) (a1 : Int) (a2 : Int) (a3 : Int) (a4f : FuncId) (a4c : List MV) : ev fu (n + 1) 118 [.ref 0, .int .i64 a1, .int .i64 a2, .int .i64 a3, .fn a4f a4c] [some (.row false 1 a0 [])] = (slices_pdqsortCmpFunc_int_L1 fu n fu a0 a1 a2 a3 a4f a4c true true) := evalF_seg rfl Tryz.func118 rfl rfl rfl rfl (by kernel_rfl)
noncomputable abbrev base_Visible_L1 (fu n k1 : Nat) (v0 : ByteArray) (v1 : Bool) (v8 : Int) (v9 : Int) : Out := lps (env fu) (evs fu n) 0 Tryz.f104 fp104 [1, 0, 1, 0] [] k1 ⟨[(0, .str v0), (1, .bool v1), (8, .int .i64 v8), (9, .int .i64 v9)], []⟩
theorem base_Visible_L1_eq (fu n k1 : Nat) (v0 : ByteArray) (v1 : Bool) (v8 : Int) (v9 : Int) : base_Visible_L1 fu n (k1 + 1) v0 v1 v8 v9 = (cnd (decide (v9 < v8)) (ixS v0 v9 fun x1 => (cnd (decide (x1 < (32 : Int))) (cnd v1 (cnd (!(decide (x1 = (10 : Int)))) (some ([.bool false], [])) (cnd (decide (x1 = (127 : Int))) (some ([.bool false], [])) (base_Visible_L1 fu n k1 v0 v1 v8 (IntKind.i64.wrap (v9 + (1 : Int)))))) (some ([.bool false], []))) (cnd (decide (x1 = (127 : Int))) (some ([.bool false], [])) (base_Visible_L1 fu n k1 v0 v1 v8 (IntKind.i64.wrap (v9 + (1 : Int))))))) (rB (ev fu n 98 [.str v0] []) fun x2 => (some ([.bool x2], [])))) := by kernel_rfl
theorem base_Visible_eq (fu n : Nat) (a0 : ByteArray) (a1 : Bool) : ev fu (n + 1) 104 [.str a0, .bool a1] [] = (base_Visible_L1 fu n fu a0 a1 ((a0).size : Int) (0 : Int)) := evalF_seg rfl Tryz.func104 rfl rfl rfl rfl (by kernel_rfl)
theorem chasemake_itemId_eq (fu n : Nat) (a0 : Int) : ev fu (n + 1) 47 [.int .i64 a0] [] = (gd ((26 : Int) ≠ 0) (gd ((26 : Int) ≠ 0) (stG (⟨#[105]⟩ : ByteArray) (Utf8.encode (IntKind.i32.wrap (IntKind.i64.wrap ((97 : Int) + (Int.tmod (IntKind.i64.wrap (Int.tdiv a0 (26 : Int))) (26 : Int)))))) (gd ((26 : Int) ≠ 0) (stG ((⟨#[105]⟩ : ByteArray) ++ (Utf8.encode (IntKind.i32.wrap (IntKind.i64.wrap ((97 : Int) + (Int.tmod (IntKind.i64.wrap (Int.tdiv a0 (26 : Int))) (26 : Int))))))) (Utf8.encode (IntKind.i32.wrap (IntKind.i64.wrap ((97 : Int) + (Int.tmod a0 (26 : Int)))))) (some ([.str (((⟨#[105]⟩ : ByteArray) ++ (Utf8.encode (IntKind.i32.wrap (IntKind.i64.wrap ((97 : Int) + (Int.tmod (IntKind.i64.wrap (Int.tdiv a0 (26 : Int))) (26 : Int))))))) ++ (Utf8.encode (IntKind.i32.wrap (IntKind.i64.wrap ((97 : Int) + (Int.tmod a0 (26 : Int)))))))], []))))))) := evalF_seg rfl Tryz.func47 rfl rfl rfl rfl (by kernel_rfl)
theorem cmp_Compare_string_eq (fu n : Nat) (a0 : ByteArray) (a1 : ByteArray) : ev fu (n + 1) 119 [.str a0, .str a1] [] = (rB (ev fu n 159 [.str a0] []) fun x1 => (rB (ev fu n 159 [.str a1] []) fun x2 => (cnd x1 (cnd x2 (some ([.int .i64 (0 : Int)], [])) (some ([.int .i64 (-1 : Int)], []))) (cnd x2 (some ([.int .i64 (1 : Int)], [])) (cnd (sless a0 a1) (some ([.int .i64 (-1 : Int)], [])) (cnd (!(sless a0 a1 || decide (a0 = a1))) (some ([.int .i64 (1 : Int)], [])) (some ([.int .i64 (0 : Int)], [])))))))) := evalF_seg rfl Tryz.func119 rfl rfl rfl rfl (by kernel_rfl)
theorem chasemake_Stream_some10_eq (fu n : Nat) (p0_0 : List (List MV)) (p0_1 : Int) (a1 : List (List MV)) : ev fu (n + 1) 46 [.ptr 0 0, .list a1] [some (.box [.list p0_0, .int .i64 p0_1])] = (skI .i64 (ev fu n 19 [.ptr 0 0, .int .i64 ((List.length a1 : Nat) : Int)] [some (.box [.list p0_0, .int .i64 p0_1])]) fun l3 a4 x5 => (rd a1 x5 fun e6 => gd (List.length e6 = 1) (cel e6 0 fun m7 => (dS m7 fun x8 => (some ([.str x8], [some (.box [.list l3, .int .i64 a4])])))))) := evalF_seg rfl Tryz.func46 rfl rfl rfl rfl (by kernel_rfl)
theorem internal_stringslite_HasSuffix_eq (fu n : Nat) (a0 : ByteArray) (a1 : ByteArray) : ev fu (n + 1) 135 [.str a0, .str a1] [] = (cnd (decide (((a1).size : Int) ≤ ((a0).size : Int))) (slS a0 (IntKind.i64.wrap (((a0).size : Int) - ((a1).size : Int))) ((a0).size : Int) fun s1 => (some ([.bool (decide (s1 = a1))], []))) (some ([.bool false], []))) := evalF_seg rfl Tryz.func135 rfl rfl rfl rfl (by kernel_rfl)
theorem chaseref2_place_eq (fu n : Nat) (a0 : List (List MV)) (a1 : ByteArray) : ev fu (n + 1) 67 [.list a0, .str a1] [] = (rI .i64 (ev fu n 106 [.list a0, .fn 107 [.cptr [.str a1] 0]] []) fun x1 => (some ([.int .i64 x1], []))) := evalF_seg rfl Tryz.func67 rfl rfl rfl rfl (by kernel_rfl)
theorem chaselaw2_has_eq (fu n : Nat) (a0 : List (List MV)) (a1 : ByteArray) : ev fu (n + 1) 36 [.list a0, .str a1] [] = (rB (ev fu n 87 [.list a0, .fn 88 [.cptr [.str a1] 0]] []) fun x1 => (some ([.bool x1], []))) := evalF_seg rfl Tryz.func36 rfl rfl rfl rfl (by kernel_rfl)
theorem base_When_eq (fu n : Nat) (a0 : Bool) (a1 : Int) : ev fu (n + 1) 63 [.bool a0, .int .i64 a1] [] = (cnd a0 (some ([.int .i64 a1], [])) (some ([.int .i64 (0 : Int)], []))) := evalF_seg rfl Tryz.func63 rfl rfl rfl rfl (by kernel_rfl)
end Go.Pv
/- Equations of functions. Printed by he.py. -/
namespace Go.Pv
open Go Go.Proofs
noncomputable abbrev chasemake_Stream_Items_J1 (fu n : Nat) (v1 : Int) (v5 : List (List MV)) (v17 : Bool) (b0_0 : List (List MV)) (b0_1 : Int) : Out := nxt (jmp (env fu) (evs fu n) 1 Tryz.f8 fp8 [1, 1, 0, 1, 9] []) ⟨[(0, .ptr 0 0), (1, .int .i64 v1), (5, .ref 1), (17, .bool v17)], [some (.box [.list b0_0, .int .i64 b0_1]), some (.row false 7 v5 [])]⟩
noncomputable abbrev chasemake_Stream_Items_L1 (fu n k1 : Nat) (v5 : List (List MV)) (v24 : Int) (b0_0 : List (List MV)) (b0_1 : Int) : Out := lps (env fu) (evs fu n) 1 Tryz.f8 fp8 [1, 1, 0, 1, 9, 0, 1, 1, 0, 1, 1, 1, 1, 1, 1, 1, 1, 1, 0] [] k1 ⟨[(0, .ptr 0 0), (5, .ref 1), (24, .int .i64 v24)], [some (.box [.list b0_0, .int .i64 b0_1]), some (.row false 7 v5 [])]⟩
theorem chasemake_Stream_Items_J1_eq (fu n : Nat) (v1 : Int) (v5 : List (List MV)) (v17 : Bool) (b0_0 : List (List MV)) (b0_1 : Int) : chasemake_Stream_Items_J1 fu n v1 v5 v17 b0_0 b0_1 = (cnd v17 (skI .i64 (ev fu n 19 [.ptr 0 0, .int .i64 ((List.length v5 : Nat) : Int)] [some (.box [.list b0_0, .int .i64 b0_1])]) fun l3 a4 x5 => (skI .i64 (ev fu n 19 [.ptr 0 0, .int .i64 (5 : Int)] [some (.box [.list l3, .int .i64 a4])]) fun l8 a9 x10 => (cnd (decide (x10 = (0 : Int))) (ixG (List.length v5) x5 (rdN v5 (Int.toNat x5) fun e11 => (cel e11 0 fun m12 => (dS m12 fun x13 => (rdN v5 (Int.toNat x5) fun e14 => (cel e14 0 fun m15 => (dS m15 fun x16 => (eqM (.str x16) (.str x13) (skI .i64 (ev fu n 19 [.ptr 0 0, .int .i64 v1] [some (.box [.list l8, .int .i64 a9])]) fun l19 a20 x21 => (rdN v5 (Int.toNat x5) fun e22 => (cel e22 0 fun m23 => (dS m23 fun x24 => (eqM (.str x24) (.str x13) (rS (ev fu n 47 [.int .i64 x21] []) fun x25 => (rdN v5 (Int.toNat x5) fun e26 => (cel e26 0 fun m27 => (dS m27 fun x28 => (eqM (.str x28) (.str x13) (skS (ev fu n 46 [.ptr 0 0, .list ([[.str (⟨#[105, 122, 122]⟩ : ByteArray)], [.str x25], [.str x13]] : List (List MV))] [some (.box [.list l19, .int .i64 a20])]) fun l31 a32 x33 => (ixG (List.length v5) x5 (rdN v5 (Int.toNat x5) fun e34 => (some ([.ref 1], [some (.box [.list l31, .int .i64 a32]), some (.row false 7 (List.set v5 (Int.toNat x5) (ovr e34 5 ([.str x33] : List MV))) [])]))))))))))))))))))))))) (cnd (decide (x10 = (1 : Int))) (ixG (List.length v5) x5 (rdN v5 (Int.toNat x5) fun e35 => (cel e35 0 fun m36 => (dS m36 fun x37 => (callE (ev fu n 10 [.ptr 0 0, .str x37] [some (.box [.list l8, .int .i64 a9])]) fun r38 B39 => (unX B39 fun o40 B41 => (dBx o40 fun c42 => (unC c42 fun m43 c44 => (dL m43 fun x45 => (unC c44 fun m46 c47 => (dI .i64 m46 fun x48 => (unN c47 (unXN B41 (unC r38 fun m49 r50 => (dA m49 fun c51 => (unC c51 fun m52 c53 => (dS m52 fun x54 => (unC c53 fun m55 c56 => (dS m55 fun x57 => (unC c56 fun m58 c59 => (dI .i64 m58 fun x60 => (unC c59 fun m61 c62 => (dS m61 fun x63 => (unC c62 fun m64 c65 => (dI .i64 m64 fun x66 => (unC c65 fun m67 c68 => (dS m67 fun x69 => (unC c68 fun m70 c71 => (dS m70 fun x72 => (unN c71 (unN r50 (ixG (List.length v5) x5 (rdN v5 (Int.toNat x5) fun e73 => (some ([.ref 1], [some (.box [.list x45, .int .i64 x48]), some (.row false 7 (List.set v5 (Int.toNat x5) (ovr e73 0 ([.str x54, .str x57, .int .i64 x60, .str x63, .int .i64 x66, .str x69, .str x72] : List MV))) [])]))))))))))))))))))))))))))))))))))) (cnd (decide (x10 = (2 : Int))) (ixG (List.length v5) (0 : Int) (rdN v5 (Int.toNat (0 : Int)) fun e74 => (gd (0 + 7 ≤ List.length e74) (unC (List.take 7 (List.drop 0 e74)) fun m75 c76 => (dS m75 fun x77 => (unC c76 fun m78 c79 => (dS m78 fun x80 => (unC c79 fun m81 c82 => (dI .i64 m81 fun x83 => (unC c82 fun m84 c85 => (dS m84 fun x86 => (unC c85 fun m87 c88 => (dI .i64 m87 fun x89 => (unC c88 fun m90 c91 => (dS m90 fun x92 => (unC c91 fun m93 c94 => (dS m93 fun x95 => (unN c94 (gL (List.length v5 + List.length ([[.str x77, .str x80, .int .i64 x83, .str x86, .int .i64 x89, .str x92, .str x95]] : List (List MV))) (some ([.ref 1], [some (.box [.list l8, .int .i64 a9]), some (.row false 7 (v5 ++ ([[.str x77, .str x80, .int .i64 x83, .str x86, .int .i64 x89, .str x92, .str x95]] : List (List MV))) [])]))))))))))))))))))))) (cnd (decide (x10 = (3 : Int))) (skI .i64 (ev fu n 48 [.ptr 0 0, .int .i64 (1 : Int), .int .i64 (4 : Int)] [some (.box [.list l8, .int .i64 a9])]) fun l98 a99 x100 => (ixG (List.length v5) x5 (rdN v5 (Int.toNat x5) fun e101 => (some ([.ref 1], [some (.box [.list l98, .int .i64 a99]), some (.row false 7 (List.set v5 (Int.toNat x5) (ovr e101 2 ([.int .i64 x100] : List MV))) [])]))))) (chasemake_Stream_Items_L1 fu n fu v5 (0 : Int) l8 a9))))))) (some ([.ref 1], [some (.box [.list b0_0, .int .i64 b0_1]), some (.row false 7 v5 [])]))) := by kernel_rfl
theorem chasemake_Stream_Items_L1_eq (fu n k1 : Nat) (v5 : List (List MV)) (v24 : Int) (b0_0 : List (List MV)) (b0_1 : Int) : chasemake_Stream_Items_L1 fu n (k1 + 1) v5 v24 b0_0 b0_1 = (cnd (decide (v24 < (4 : Int))) (skI .i64 (ev fu n 19 [.ptr 0 0, .int .i64 ((List.length v5 : Nat) : Int)] [some (.box [.list b0_0, .int .i64 b0_1])]) fun l3 a4 x5 => (skI .i64 (ev fu n 19 [.ptr 0 0, .int .i64 ((List.length v5 : Nat) : Int)] [some (.box [.list l3, .int .i64 a4])]) fun l8 a9 x10 => (ixG (List.length v5) x10 (rdN v5 (Int.toNat x10) fun e11 => (cel e11 0 fun m12 => (dS m12 fun x13 => (ixG (List.length v5) x5 (rdN v5 (Int.toNat x5) fun e14 => (chasemake_Stream_Items_L1 fu n k1 (List.set v5 (Int.toNat x5) (ovr e14 5 ([.str x13] : List MV))) (IntKind.i64.wrap (v24 + (1 : Int))) l8 a9))))))))) (some ([.ref 1], [some (.box [.list b0_0, .int .i64 b0_1]), some (.row false 7 v5 [])]))) := by kernel_rfl
theorem chasemake_Stream_Items_eq (fu n : Nat) (p0_0 : List (List MV)) (p0_1 : Int) (a1 : Int) : ev fu (n + 1) 8 [.ptr 0 0, .int .i64 a1] [some (.box [.list p0_0, .int .i64 p0_1])] = (callE (ev fu n 44 [.ptr 0 0, .int .i64 a1] [some (.box [.list p0_0, .int .i64 p0_1])]) fun r1 B2 => (unX B2 fun o3 B4 => (dBx o3 fun c5 => (unC c5 fun m6 c7 => (dL m6 fun x8 => (unC c7 fun m9 c10 => (dI .i64 m9 fun x11 => (unN c10 (unX B4 fun o12 B13 => (dRw false 7 o12 fun x14 => (unXN B13 (unC r1 fun m15 r16 => (dRf 1 m15 (unN r16 (cnd (decide ((0 : Int) < ((List.length x14 : Nat) : Int))) (skB (ev fu n 45 [.ptr 0 0, .int .i64 (8 : Int)] [some (.box [.list x8, .int .i64 x11])]) fun l19 a20 x21 => (chasemake_Stream_Items_J1 fu n a1 x14 x21 l19 a20)) (chasemake_Stream_Items_J1 fu n a1 x14 false x8 x11)))))))))))))))) := evalF_seg rfl Tryz.func8 rfl rfl rfl rfl (by kernel_rfl)
theorem chasemake_Stream_Item_eq (fu n : Nat) (p0_0 : List (List MV)) (p0_1 : Int) (a1 : ByteArray) : ev fu (n + 1) 10 [.ptr 0 0, .str a1] [some (.box [.list p0_0, .int .i64 p0_1])] = (skS (ev fu n 46 [.ptr 0 0, .list ([[.str (⟨#[97, 110, 110]⟩ : ByteArray)], [.str (⟨#[98, 111, 98]⟩ : ByteArray)], [.str (⟨#[99, 105, 100]⟩ : ByteArray)]] : List (List MV))] [some (.box [.list p0_0, .int .i64 p0_1])]) fun l3 a4 x5 => (skI .i64 (ev fu n 20 [.ptr 0 0, .list ([[.int .i64 (1 : Int)], [.int .i64 (1 : Int)], [.int .i64 (1 : Int)], [.int .i64 (2 : Int)], [.int .i64 (3 : Int)], [.int .i64 (3 : Int)], [.int .i64 (4 : Int)]] : List (List MV))] [some (.box [.list l3, .int .i64 a4])]) fun l8 a9 x10 => (skS (ev fu n 46 [.ptr 0 0, .list ([[.str (⟨#[]⟩ : ByteArray)], [.str (⟨#[109, 101, 109, 111]⟩ : ByteArray)], [.str (⟨#[84, 104, 101, 32, 100, 101, 97, 108]⟩ : ByteArray)], [.str (⟨#[120, 45, 49, 46, 116, 120, 116]⟩ : ByteArray)]] : List (List MV))] [some (.box [.list l8, .int .i64 a9])]) fun l13 a14 x15 => (skI .i64 (ev fu n 20 [.ptr 0 0, .list ([[.int .i64 (0 : Int)], [.int .i64 (10 : Int)], [.int .i64 (100 : Int)], [.int .i64 (1439 : Int)], [.int .i64 (1440 : Int)], [.int .i64 (5000 : Int)], [.int .i64 (20000 : Int)]] : List (List MV))] [some (.box [.list l13, .int .i64 a14])]) fun l18 a19 x20 => (skS (ev fu n 49 [.ptr 0 0] [some (.box [.list l18, .int .i64 a19])]) fun l23 a24 x25 => (skS (ev fu n 49 [.ptr 0 0] [some (.box [.list l23, .int .i64 a24])]) fun l28 a29 x30 => (skS (ev fu n 46 [.ptr 0 0, .list ([[.str (⟨#[]⟩ : ByteArray)], [.str (⟨#[111, 110, 101, 10]⟩ : ByteArray)], [.str (⟨#[111, 110, 101, 10, 116, 119, 111, 10]⟩ : ByteArray)], [.str x25], [.str x30]] : List (List MV))] [some (.box [.list l28, .int .i64 a29])]) fun l33 a34 x35 => (skB (ev fu n 45 [.ptr 0 0, .int .i64 (60 : Int)] [some (.box [.list l33, .int .i64 a34])]) fun l38 a39 x40 => (cnd x40 (skI .i64 (ev fu n 19 [.ptr 0 0, .int .i64 (6 : Int)] [some (.box [.list l38, .int .i64 a39])]) fun l43 a44 x45 => (cnd (decide (x45 = (0 : Int))) (skS (ev fu n 46 [.ptr 0 0, .list ([[.str (⟨#[]⟩ : ByteArray)], [.str (⟨#[65]⟩ : ByteArray)], [.str a1]] : List (List MV))] [some (.box [.list l43, .int .i64 a44])]) fun l48 a49 x50 => (skS (ev fu n 46 [.ptr 0 0, .list ([[.str (⟨#[]⟩ : ByteArray)], [.str (⟨#[65, 110, 110]⟩ : ByteArray)], [.str (⟨#[97, 110, 110]⟩ : ByteArray)]] : List (List MV))] [some (.box [.list l48, .int .i64 a49])]) fun l53 a54 x55 => (some ([.agg [.str x50, .str x55, .int .i64 x10, .str x15, .int .i64 x20, .str ByteArray.empty, .str x35]], [some (.box [.list l53, .int .i64 a54])])))) (cnd (decide (x45 = (1 : Int))) (skI .i64 (ev fu n 48 [.ptr 0 0, .int .i64 (1 : Int), .int .i64 (4 : Int)] [some (.box [.list l43, .int .i64 a44])]) fun l58 a59 x60 => (some ([.agg [.str a1, .str x5, .int .i64 x60, .str x15, .int .i64 x20, .str ByteArray.empty, .str x35]], [some (.box [.list l58, .int .i64 a59])]))) (cnd (decide (x45 = (2 : Int))) (skI .i64 (ev fu n 20 [.ptr 0 0, .list ([[.int .i64 (120 : Int)], [.int .i64 (121 : Int)]] : List (List MV))] [some (.box [.list l43, .int .i64 a44])]) fun l63 a64 x65 => (rS (ev fu n 50 [.str (⟨#[97]⟩ : ByteArray), .int .i64 x65] []) fun x66 => (skS (ev fu n 46 [.ptr 0 0, .list ([[.str (⟨#[32, 97]⟩ : ByteArray)], [.str (⟨#[97, 32, 32, 98]⟩ : ByteArray)], [.str (⟨#[97, 10]⟩ : ByteArray)], [.str (⟨#[255]⟩ : ByteArray)], [.str x66]] : List (List MV))] [some (.box [.list l63, .int .i64 a64])]) fun l69 a70 x71 => (some ([.agg [.str a1, .str x5, .int .i64 x10, .str x71, .int .i64 x20, .str ByteArray.empty, .str x35]], [some (.box [.list l69, .int .i64 a70])]))))) (cnd (decide (x45 = (3 : Int))) (skI .i64 (ev fu n 48 [.ptr 0 0, .int .i64 (0 : Int), .int .i64 (5761439 : Int)] [some (.box [.list l43, .int .i64 a44])]) fun l74 a75 x76 => (some ([.agg [.str a1, .str x5, .int .i64 x10, .str x15, .int .i64 x76, .str ByteArray.empty, .str x35]], [some (.box [.list l74, .int .i64 a75])]))) (cnd (decide (x45 = (4 : Int))) (skS (ev fu n 46 [.ptr 0 0, .list ([[.str (⟨#[65]⟩ : ByteArray)], [.str a1], [.str (⟨#[57]⟩ : ByteArray)]] : List (List MV))] [some (.box [.list l43, .int .i64 a44])]) fun l79 a80 x81 => (some ([.agg [.str a1, .str x5, .int .i64 x10, .str x15, .int .i64 x20, .str x81, .str x35]], [some (.box [.list l79, .int .i64 a80])]))) (skI .i64 (ev fu n 20 [.ptr 0 0, .list ([[.int .i64 (19999 : Int)], [.int .i64 (20000 : Int)]] : List (List MV))] [some (.box [.list l43, .int .i64 a44])]) fun l84 a85 x86 => (rS (ev fu n 50 [.str (⟨#[97]⟩ : ByteArray), .int .i64 x86] []) fun x87 => (stG x87 (⟨#[10]⟩ : ByteArray) (skS (ev fu n 46 [.ptr 0 0, .list ([[.str (⟨#[110, 111, 32, 101, 110, 100]⟩ : ByteArray)], [.str (⟨#[1, 10]⟩ : ByteArray)], [.str (⟨#[127, 10]⟩ : ByteArray)], [.str (⟨#[255, 10]⟩ : ByteArray)], [.str (x87 ++ (⟨#[10]⟩ : ByteArray))]] : List (List MV))] [some (.box [.list l84, .int .i64 a85])]) fun l90 a91 x92 => (some ([.agg [.str a1, .str x5, .int .i64 x10, .str x15, .int .i64 x20, .str ByteArray.empty, .str x92]], [some (.box [.list l90, .int .i64 a91])])))))))))))) (some ([.agg [.str a1, .str x5, .int .i64 x10, .str x15, .int .i64 x20, .str ByteArray.empty, .str x35]], [some (.box [.list l38, .int .i64 a39])]))))))))))) := evalF_seg rfl Tryz.func10 rfl rfl rfl rfl (by kernel_rfl)
noncomputable abbrev slices_Equal_Sstring_string_L1 (fu n k1 : Nat) (v0 : List (List MV)) (v1 : List (List MV)) (v12 : Int) (v13 : Int) : Out := lps (env fu) (evs fu n) 0 Tryz.f28 fp28 [1, 1, 0, 1, 0] [] k1 ⟨[(0, .list v0), (1, .list v1), (12, .int .i64 v12), (13, .int .i64 v13)], []⟩
theorem slices_Equal_Sstring_string_L1_eq (fu n k1 : Nat) (v0 : List (List MV)) (v1 : List (List MV)) (v12 : Int) (v13 : Int) : slices_Equal_Sstring_string_L1 fu n (k1 + 1) v0 v1 v12 v13 = (cnd (decide (v13 < v12)) (rd v0 v13 fun e1 => gd (List.length e1 = 1) (cel e1 0 fun m2 => (dS m2 fun x3 => (rd v1 v13 fun e4 => gd (List.length e4 = 1) (cel e4 0 fun m5 => (dS m5 fun x6 => (cnd (!decide (x3 = x6)) (some ([.bool false], [])) (slices_Equal_Sstring_string_L1 fu n k1 v0 v1 v12 (IntKind.i64.wrap (v13 + (1 : Int))))))))))) (some ([.bool true], []))) := by kernel_rfl
theorem slices_Equal_Sstring_string_eq (fu n : Nat) (a0 : List (List MV)) (a1 : List (List MV)) : ev fu (n + 1) 28 [.list a0, .list a1] [] = (cnd (!decide (((List.length a0 : Nat) : Int) = ((List.length a1 : Nat) : Int))) (some ([.bool false], [])) (slices_Equal_Sstring_string_L1 fu n fu a0 a1 ((List.length a0 : Nat) : Int) (0 : Int))) := evalF_seg rfl Tryz.func28 rfl rfl rfl rfl (by kernel_rfl)
theorem chaseref2_place_1_eq (fu n : Nat) (a0_0 : ByteArray) (a0_1 : ByteArray) (a0_2 : Int) (a0_3 : ByteArray) (a0_4 : Int) (a0_5 : ByteArray) (a0_6 : ByteArray) (q0 : List MV) : ev fu (n + 1) 107 [.agg [.str a0_0, .str a0_1, .int .i64 a0_2, .str a0_3, .int .i64 a0_4, .str a0_5, .str a0_6], .cptr q0 0] [] = (cel q0 0 fun m1 => (dS m1 fun x2 => (some ([.bool (decide (a0_0 = x2))], [])))) := evalF_seg rfl Tryz.func107 rfl rfl rfl rfl (by kernel_rfl)
theorem chaseref2_returns_eq (fu n : Nat) (a0 : List (List MV)) (a1 : Int) : ev fu (n + 1) 108 [.list a0, .int .i64 a1] [] = (callE (ev fu n 82 [.list a0, .int .i64 a1] []) fun r1 B2 => unXN B2 (unC r1 fun m3 r4 => (dL m3 fun x5 => (unC r4 fun m6 r7 => (dB m6 fun x8 => (unN r7 (rB (ev fu n 136 [.list x5, .int .i64 a1] []) fun x9 => (some ([.bool x9], []))))))))) := evalF_seg rfl Tryz.func108 rfl rfl rfl rfl (by kernel_rfl)
theorem slices_ContainsFunc_Sstring_string_eq (fu n : Nat) (a0 : List (List MV)) (a1f : FuncId) (a1c : List MV) : ev fu (n + 1) 89 [.list a0, .fn a1f a1c] [] = (npG [.list a0, .fn a1f a1c] (rI .i64 (ev fu n 120 [.list a0, .fn a1f a1c] []) fun x1 => (some ([.bool (decide ((0 : Int) ≤ x1))], [])))) := evalF_seg rfl Tryz.func89 rfl rfl rfl rfl (by kernel_rfl)
theorem strings_Index_eq (fu n : Nat) (a0 : ByteArray) (a1 : ByteArray) : ev fu (n + 1) 134 [.str a0, .str a1] [] = (rI .i64 (ev fu n 166 [.str a0, .str a1] []) fun x1 => (some ([.int .i64 x1], []))) := evalF_seg rfl Tryz.func134 rfl rfl rfl rfl (by kernel_rfl)
end Go.Pv
/- Equations of functions. Printed by he.py. -/
namespace Go.Pv
open Go Go.Proofs
noncomputable abbrev slices_insertionSortCmpFunc_int_L1 (fu n k1 : Nat) (v0 : List (List MV)) (v1 : Int) (v2 : Int) (v3f : FuncId) (v3c : List MV) (v8 : Int) : Out := lps (env fu) (evs fu n) 1 Tryz.f151 fp151 [1, 0] [] k1 ⟨[(0, .ref 0), (1, .int .i64 v1), (2, .int .i64 v2), (3, .fn v3f v3c), (8, .int .i64 v8)], [some (.row false 1 v0 [])]⟩
noncomputable abbrev slices_insertionSortCmpFunc_int_L2 (fu n k1 k2 : Nat) (v0 : List (List MV)) (v1 : Int) (v2 : Int) (v3f : FuncId) (v3c : List MV) (v8 : Int) (v9 : Int) : Out := lps (env fu) (evs fu n) 1 Tryz.f151 fp151 [1, 0, 0, 1, 0, 0, 1, 0] [k1] k2 ⟨[(0, .ref 0), (1, .int .i64 v1), (2, .int .i64 v2), (3, .fn v3f v3c), (8, .int .i64 v8), (9, .int .i64 v9)], [some (.row false 1 v0 [])]⟩
noncomputable abbrev slices_insertionSortCmpFunc_int_J1 (fu n k1 k2 : Nat) (v0 : List (List MV)) (v1 : Int) (v2 : Int) (v3f : FuncId) (v3c : List MV) (v8 : Int) (v9 : Int) (v34 : Bool) : Out := nxt (jmp (env fu) (evs fu n) 1 Tryz.f151 fp151 [1, 0, 0, 1, 0, 0, 1, 0, 0, 0, 1, 9] [k1, k2]) ⟨[(0, .ref 0), (1, .int .i64 v1), (2, .int .i64 v2), (3, .fn v3f v3c), (8, .int .i64 v8), (9, .int .i64 v9), (34, .bool v34)], [some (.row false 1 v0 [])]⟩
theorem slices_insertionSortCmpFunc_int_L1_eq (fu n k1 : Nat) (v0 : List (List MV)) (v1 : Int) (v2 : Int) (v3f : FuncId) (v3c : List MV) (v8 : Int) : slices_insertionSortCmpFunc_int_L1 fu n (k1 + 1) v0 v1 v2 v3f v3c v8 = (cnd (decide (v8 < v2)) (slices_insertionSortCmpFunc_int_L2 fu n k1 fu v0 v1 v2 v3f v3c v8 v8) (some ([], [some (.row false 1 v0 [])]))) := by kernel_rfl
theorem slices_insertionSortCmpFunc_int_L2_eq (fu n k1 k2 : Nat) (v0 : List (List MV)) (v1 : Int) (v2 : Int) (v3f : FuncId) (v3c : List MV) (v8 : Int) (v9 : Int) : slices_insertionSortCmpFunc_int_L2 fu n k1 (k2 + 1) v0 v1 v2 v3f v3c v8 v9 = (cnd (decide (v1 < v9)) (ixG (List.length v0) v9 (rdN v0 (Int.toNat v9) fun e1 => (cel e1 0 fun m2 => (dI .i64 m2 fun x3 => (rdN v0 (Int.toNat v9) fun e4 => (cel e4 0 fun m5 => (dI .i64 m5 fun x6 => (eqM (.int .i64 x6) (.int .i64 x3) (eqM (.int .i64 (IntKind.i64.wrap (v9 - (1 : Int)))) (.int .i64 (IntKind.i64.wrap (v9 - (1 : Int)))) (ixG (List.length v0) (IntKind.i64.wrap (v9 - (1 : Int))) (ixG (List.length v0) (IntKind.i64.wrap (v9 - (1 : Int))) (eqM (.eref 0 1 (Int.toNat (IntKind.i64.wrap (v9 - (1 : Int)))) 0) (.eref 0 1 (Int.toNat (IntKind.i64.wrap (v9 - (1 : Int)))) 0) (rdN v0 (Int.toNat (IntKind.i64.wrap (v9 - (1 : Int)))) fun e7 => (cel e7 0 fun m8 => (dI .i64 m8 fun x9 => (rdN v0 (Int.toNat (IntKind.i64.wrap (v9 - (1 : Int)))) fun e10 => (cel e10 0 fun m11 => (dI .i64 m11 fun x12 => (eqM (.int .i64 x12) (.int .i64 x9) (npG ([.int .i64 x3, .int .i64 x9] ++ v3c) (rI .i64 (ev fu n v3f ([.int .i64 x3, .int .i64 x9] ++ v3c) []) fun x13 => (ixG (List.length v0) (IntKind.i64.wrap (v9 - (1 : Int))) (eqM (.eref 0 1 (Int.toNat (IntKind.i64.wrap (v9 - (1 : Int)))) 0) (.eref 0 1 (Int.toNat (IntKind.i64.wrap (v9 - (1 : Int)))) 0) (eqM (.int .i64 (IntKind.i64.wrap (v9 - (1 : Int)))) (.int .i64 (IntKind.i64.wrap (v9 - (1 : Int)))) (eqM (.bool (decide (x13 < (0 : Int)))) (.bool (decide (x13 < (0 : Int)))) (eqM (.bool (decide (x13 < (0 : Int)))) (.bool (decide (x13 < (0 : Int)))) (slices_insertionSortCmpFunc_int_J1 fu n k1 k2 v0 v1 v2 v3f v3c v8 v9 (decide (x13 < (0 : Int)))))))))))))))))))))))))))))) (slices_insertionSortCmpFunc_int_J1 fu n k1 k2 v0 v1 v2 v3f v3c v8 v9 false)) := by kernel_rfl
theorem slices_insertionSortCmpFunc_int_J1_eq (fu n k1 k2 : Nat) (v0 : List (List MV)) (v1 : Int) (v2 : Int) (v3f : FuncId) (v3c : List MV) (v8 : Int) (v9 : Int) (v34 : Bool) : slices_insertionSortCmpFunc_int_J1 fu n k1 k2 v0 v1 v2 v3f v3c v8 v9 v34 = (cnd v34 (ixG (List.length v0) (IntKind.i64.wrap (v9 - (1 : Int))) (ixG (List.length v0) v9 (rdN v0 (Int.toNat (IntKind.i64.wrap (v9 - (1 : Int)))) fun e1 => (cel e1 0 fun m2 => (dI .i64 m2 fun x3 => (rdN v0 (Int.toNat (IntKind.i64.wrap (v9 - (1 : Int)))) fun e4 => (cel e4 0 fun m5 => (dI .i64 m5 fun x6 => (eqM (.int .i64 x6) (.int .i64 x3) (rdN v0 (Int.toNat v9) fun e7 => (cel e7 0 fun m8 => (dI .i64 m8 fun x9 => (rdN v0 (Int.toNat v9) fun e10 => (cel e10 0 fun m11 => (dI .i64 m11 fun x12 => (eqM (.int .i64 x12) (.int .i64 x9) (ixG (List.length v0) v9 (rdN v0 (Int.toNat v9) fun e13 => (ixG (List.length (List.set v0 (Int.toNat v9) (ovr e13 0 ([.int .i64 x3] : List MV)))) (IntKind.i64.wrap (v9 - (1 : Int))) (rdN (List.set v0 (Int.toNat v9) (ovr e13 0 ([.int .i64 x3] : List MV))) (Int.toNat (IntKind.i64.wrap (v9 - (1 : Int)))) fun e14 => (slices_insertionSortCmpFunc_int_L2 fu n k1 k2 (List.set (List.set v0 (Int.toNat v9) (ovr e13 0 ([.int .i64 x3] : List MV))) (Int.toNat (IntKind.i64.wrap (v9 - (1 : Int)))) (ovr e14 0 ([.int .i64 x9] : List MV))) v1 v2 v3f v3c v8 (IntKind.i64.wrap (v9 - (1 : Int)))))))))))))))))))))))) (slices_insertionSortCmpFunc_int_L1 fu n k1 v0 v1 v2 v3f v3c (IntKind.i64.wrap (v8 + (1 : Int))))) := by kernel_rfl
theorem slices_insertionSortCmpFunc_int_eq (fu n : Nat) (a0 : List (List MV)) (a1 : Int) (a2 : Int) (a3f : FuncId) (a3c : List MV) : ev fu (n + 1) 151 [.ref 0, .int .i64 a1, .int .i64 a2, .fn a3f a3c] [some (.row false 1 a0 [])] = (slices_insertionSortCmpFunc_int_L1 fu n fu a0 a1 a2 a3f a3c (IntKind.i64.wrap (a1 + (1 : Int)))) := evalF_seg rfl Tryz.func151 rfl rfl rfl rfl (by kernel_rfl)
noncomputable abbrev chaseref2_treeFault_L1 (fu n k1 : Nat) (v0 : List (List MV)) (v9 : Int) (v10 : Int) : Out := lps (env fu) (evs fu n) 0 Tryz.f68 fp68 [1, 0, 1, 0] [] k1 ⟨[(0, .list v0), (9, .int .i64 v9), (10, .int .i64 v10)], []⟩
noncomputable abbrev chaseref2_treeFault_L2 (fu n k1 : Nat) (v0 : List (List MV)) (v18 : Int) (v19 : Int) : Out := lps (env fu) (evs fu n) 0 Tryz.f68 fp68 [1, 1, 0, 1, 0] [] k1 ⟨[(0, .list v0), (18, .int .i64 v18), (19, .int .i64 v19)], []⟩
theorem chaseref2_treeFault_L1_eq (fu n k1 : Nat) (v0 : List (List MV)) (v9 : Int) (v10 : Int) : chaseref2_treeFault_L1 fu n (k1 + 1) v0 v9 v10 = (cnd (decide (v10 < v9)) (rB (ev fu n 108 [.list v0, .int .i64 v10] []) fun x1 => (cnd x1 (some ([.int .i64 (14 : Int)], [])) (chaseref2_treeFault_L1 fu n k1 v0 v9 (IntKind.i64.wrap (v10 + (1 : Int)))))) (chaseref2_treeFault_L2 fu n fu v0 ((List.length v0 : Nat) : Int) (0 : Int))) := by kernel_rfl
theorem chaseref2_treeFault_L2_eq (fu n k1 : Nat) (v0 : List (List MV)) (v18 : Int) (v19 : Int) : chaseref2_treeFault_L2 fu n (k1 + 1) v0 v18 v19 = (cnd (decide (v19 < v18)) (rd v0 v19 fun e1 => gd (List.length e1 = 7) (cel e1 5 fun m2 => (dS m2 fun x3 => (rI .i64 (ev fu n 67 [.list v0, .str x3] []) fun x4 => (rd v0 v19 fun e5 => gd (List.length e5 = 7) (cel e5 5 fun m6 => (dS m6 fun x7 => (cnd (!decide (x7 = (⟨#[]⟩ : ByteArray))) (cnd (decide ((0 : Int) ≤ x4)) (rd v0 x4 fun e8 => gd (List.length e8 = 7) (cel e8 2 fun m9 => (dI .i64 m9 fun x10 => (cnd (!decide (x10 = (1 : Int))) (rd v0 x4 fun e11 => gd (List.length e11 = 7) (cel e11 2 fun m12 => (dI .i64 m12 fun x13 => (cnd (!decide (x13 = (3 : Int))) (some ([.int .i64 (16 : Int)], [])) (callE (ev fu n 82 [.list v0, .int .i64 v19] []) fun r14 B15 => unXN B15 (unC r14 fun m16 r17 => (dL m16 fun x18 => (unC r17 fun m19 r20 => (dB m19 fun x21 => (unN r20 (cnd (decide ((4 : Int) < ((List.length x18 : Nat) : Int))) (some ([.int .i64 (2 : Int)], [])) (chaseref2_treeFault_L2 fu n k1 v0 v18 (IntKind.i64.wrap (v19 + (1 : Int))))))))))))))) (callE (ev fu n 82 [.list v0, .int .i64 v19] []) fun r22 B23 => unXN B23 (unC r22 fun m24 r25 => (dL m24 fun x26 => (unC r25 fun m27 r28 => (dB m27 fun x29 => (unN r28 (cnd (decide ((4 : Int) < ((List.length x26 : Nat) : Int))) (some ([.int .i64 (2 : Int)], [])) (chaseref2_treeFault_L2 fu n k1 v0 v18 (IntKind.i64.wrap (v19 + (1 : Int))))))))))))))) (callE (ev fu n 82 [.list v0, .int .i64 v19] []) fun r30 B31 => unXN B31 (unC r30 fun m32 r33 => (dL m32 fun x34 => (unC r33 fun m35 r36 => (dB m35 fun x37 => (unN r36 (cnd (decide ((4 : Int) < ((List.length x34 : Nat) : Int))) (some ([.int .i64 (2 : Int)], [])) (chaseref2_treeFault_L2 fu n k1 v0 v18 (IntKind.i64.wrap (v19 + (1 : Int)))))))))))) (callE (ev fu n 82 [.list v0, .int .i64 v19] []) fun r38 B39 => unXN B39 (unC r38 fun m40 r41 => (dL m40 fun x42 => (unC r41 fun m43 r44 => (dB m43 fun x45 => (unN r44 (cnd (decide ((4 : Int) < ((List.length x42 : Nat) : Int))) (some ([.int .i64 (2 : Int)], [])) (chaseref2_treeFault_L2 fu n k1 v0 v18 (IntKind.i64.wrap (v19 + (1 : Int))))))))))))))))))) (some ([.int .i64 (0 : Int)], []))) := by kernel_rfl
theorem chaseref2_treeFault_eq (fu n : Nat) (a0 : List (List MV)) : ev fu (n + 1) 68 [.list a0] [] = (chaseref2_treeFault_L1 fu n fu a0 ((List.length a0 : Nat) : Int) (0 : Int)) := evalF_seg rfl Tryz.func68 rfl rfl rfl rfl (by kernel_rfl)
noncomputable abbrev chaseref2_above_L1 (fu n k1 : Nat) (v0 : List (List MV)) (v1 : Int) (v6 : List (List MV)) (v7 : Int) : Out := lps (env fu) (evs fu n) 0 Tryz.f82 fp82 [1, 1, 0, 1, 0] [] k1 ⟨[(0, .list v0), (1, .int .i64 v1), (6, .ref 0), (7, .int .i64 v7)], [some (.row false 1 v6 [])]⟩
noncomputable abbrev chaseref2_above_J1 (fu n k1 : Nat) (v0 : List (List MV)) (v1 : Int) (v6 : List (List MV)) (v7 : Int) (v24 : Bool) : Out := nxt (jmp (env fu) (evs fu n) 0 Tryz.f82 fp82 [1, 1, 0, 1, 0, 0, 0, 1, 9] [k1]) ⟨[(0, .list v0), (1, .int .i64 v1), (6, .ref 0), (7, .int .i64 v7), (24, .bool v24)], [some (.row false 1 v6 [])]⟩
theorem chaseref2_above_L1_eq (fu n k1 : Nat) (v0 : List (List MV)) (v1 : Int) (v6 : List (List MV)) (v7 : Int) : chaseref2_above_L1 fu n (k1 + 1) v0 v1 v6 v7 = (cnd (decide ((0 : Int) ≤ v7)) (rd v0 v1 fun e1 => gd (List.length e1 = 7) (cel e1 5 fun m2 => (dS m2 fun x3 => (chaseref2_above_J1 fu n k1 v0 v1 v6 v7 (!decide (x3 = (⟨#[]⟩ : ByteArray))))))) (chaseref2_above_J1 fu n k1 v0 v1 v6 v7 false)) := by kernel_rfl
theorem chaseref2_above_J1_eq (fu n k1 : Nat) (v0 : List (List MV)) (v1 : Int) (v6 : List (List MV)) (v7 : Int) (v24 : Bool) : chaseref2_above_J1 fu n k1 v0 v1 v6 v7 v24 = (cnd v24 (gL (List.length v6 + List.length ([[.int .i64 v7]] : List (List MV))) (cnd (decide (((List.length v0 : Nat) : Int) < ((List.length (v6 ++ ([[.int .i64 v7]] : List (List MV))) : Nat) : Int))) (some ([.list (v6 ++ ([[.int .i64 v7]] : List (List MV))), .bool false], [])) (rd v0 v7 fun e1 => gd (List.length e1 = 7) (cel e1 5 fun m2 => (dS m2 fun x3 => (cnd (decide (x3 = (⟨#[]⟩ : ByteArray))) (some ([.list (v6 ++ ([[.int .i64 v7]] : List (List MV))), .bool true], [])) (rd v0 v7 fun e4 => gd (List.length e4 = 7) (cel e4 5 fun m5 => (dS m5 fun x6 => (rI .i64 (ev fu n 67 [.list v0, .str x6] []) fun x7 => (chaseref2_above_L1 fu n k1 v0 v1 (v6 ++ ([[.int .i64 v7]] : List (List MV))) x7))))))))))) (some ([.list v6, .bool true], []))) := by kernel_rfl
theorem chaseref2_above_eq (fu n : Nat) (a0 : List (List MV)) (a1 : Int) : ev fu (n + 1) 82 [.list a0, .int .i64 a1] [] = (rd a0 a1 fun e1 => gd (List.length e1 = 7) (cel e1 5 fun m2 => (dS m2 fun x3 => (rI .i64 (ev fu n 67 [.list a0, .str x3] []) fun x4 => (chaseref2_above_L1 fu n fu a0 a1 ([] : List (List MV)) x4))))) := evalF_seg rfl Tryz.func82 rfl rfl rfl rfl (by kernel_rfl)
noncomputable abbrev chaseref2_FamiliesOf_1_L1 (fu n k1 : Nat) (v1 : List MV) (v6 : List (List MV)) (v21 : List (List MV)) (v22 : Int) (v23 : Int) : Out := lps (env fu) (evs fu n) 0 Tryz.f81 fp81 [1, 1, 1, 0, 1, 0] [] k1 ⟨[(1, .cptr v1 0), (6, .ref 0), (21, .list v21), (22, .int .i64 v22), (23, .int .i64 v23)], [some (.row false 1 v6 [])]⟩
theorem chaseref2_FamiliesOf_1_L1_eq (fu n k1 : Nat) (v1 : List MV) (v6 : List (List MV)) (v21 : List (List MV)) (v22 : Int) (v23 : Int) : chaseref2_FamiliesOf_1_L1 fu n (k1 + 1) v1 v6 v21 v22 v23 = (cnd (decide (v23 < v22)) (rd v21 v23 fun e1 => gd (List.length e1 = 1) (cel e1 0 fun m2 => (dI .i64 m2 fun x3 => (cel v1 0 fun m4 => (dL m4 fun x5 => (rd x5 x3 fun e6 => gd (List.length e6 = 7) (cel e6 0 fun m7 => (dS m7 fun x8 => (sB (wid 1 v6) (gL (List.length ([[.str x8]] : List (List MV)) + List.length v6) (chaseref2_FamiliesOf_1_L1 fu n k1 v1 (([[.str x8]] : List (List MV)) ++ v6) v21 v22 (IntKind.i64.wrap (v23 + (1 : Int)))))))))))))) (some ([.list v6], []))) := by kernel_rfl
theorem chaseref2_FamiliesOf_1_eq (fu n : Nat) (a0 : Int) (q0 : List MV) : ev fu (n + 1) 81 [.int .i64 a0, .cptr q0 0] [] = (cel q0 0 fun m1 => (dL m1 fun x2 => (callE (ev fu n 82 [.list x2, .int .i64 a0] []) fun r3 B4 => unXN B4 (unC r3 fun m5 r6 => (dL m5 fun x7 => (unC r6 fun m8 r9 => (dB m8 fun x10 => (unN r9 (cel q0 0 fun m11 => (dL m11 fun x12 => (rd x12 a0 fun e13 => gd (List.length e13 = 7) (cel e13 0 fun m14 => (dS m14 fun x15 => (chaseref2_FamiliesOf_1_L1 fu n fu q0 ([[.str x15]] : List (List MV)) x7 ((List.length x7 : Nat) : Int) (0 : Int))))))))))))))) := evalF_seg rfl Tryz.func81 rfl rfl rfl rfl (by kernel_rfl)
theorem chasemake_Stream_AnyId_eq (fu n : Nat) (p0_0 : List (List MV)) (p0_1 : Int) (a1 : List (List MV)) : ev fu (n + 1) 34 [.ptr 0 0, .list a1] [some (.box [.list p0_0, .int .i64 p0_1])] = (cnd (decide (((List.length a1 : Nat) : Int) = (0 : Int))) (skS (ev fu n 46 [.ptr 0 0, .list ([[.str (⟨#[105, 122, 122]⟩ : ByteArray)], [.str (⟨#[]⟩ : ByteArray)], [.str (⟨#[65]⟩ : ByteArray)]] : List (List MV))] [some (.box [.list p0_0, .int .i64 p0_1])]) fun l3 a4 x5 => (some ([.str x5], [some (.box [.list l3, .int .i64 a4])]))) (skB (ev fu n 45 [.ptr 0 0, .int .i64 (10 : Int)] [some (.box [.list p0_0, .int .i64 p0_1])]) fun l8 a9 x10 => (cnd x10 (skS (ev fu n 46 [.ptr 0 0, .list ([[.str (⟨#[105, 122, 122]⟩ : ByteArray)], [.str (⟨#[]⟩ : ByteArray)], [.str (⟨#[65]⟩ : ByteArray)]] : List (List MV))] [some (.box [.list l8, .int .i64 a9])]) fun l13 a14 x15 => (some ([.str x15], [some (.box [.list l13, .int .i64 a14])]))) (skI .i64 (ev fu n 19 [.ptr 0 0, .int .i64 ((List.length a1 : Nat) : Int)] [some (.box [.list l8, .int .i64 a9])]) fun l18 a19 x20 => (rd a1 x20 fun e21 => gd (List.length e21 = 7) (cel e21 0 fun m22 => (dS m22 fun x23 => (some ([.str x23], [some (.box [.list l18, .int .i64 a19])]))))))))) := evalF_seg rfl Tryz.func34 rfl rfl rfl rfl (by kernel_rfl)
noncomputable abbrev slices_Index_Sint_int_L1 (fu n k1 : Nat) (v0 : List (List MV)) (v1 : Int) (v7 : Int) (v8 : Int) : Out := lps (env fu) (evs fu n) 0 Tryz.f167 fp167 [1, 0, 1, 0] [] k1 ⟨[(0, .list v0), (1, .int .i64 v1), (7, .int .i64 v7), (8, .int .i64 v8)], []⟩
theorem slices_Index_Sint_int_L1_eq (fu n k1 : Nat) (v0 : List (List MV)) (v1 : Int) (v7 : Int) (v8 : Int) : slices_Index_Sint_int_L1 fu n (k1 + 1) v0 v1 v7 v8 = (cnd (decide (v8 < v7)) (rd v0 v8 fun e1 => gd (List.length e1 = 1) (cel e1 0 fun m2 => (dI .i64 m2 fun x3 => (cnd (decide (v1 = x3)) (some ([.int .i64 v8], [])) (slices_Index_Sint_int_L1 fu n k1 v0 v1 v7 (IntKind.i64.wrap (v8 + (1 : Int)))))))) (some ([.int .i64 (-1 : Int)], []))) := by kernel_rfl
theorem slices_Index_Sint_int_eq (fu n : Nat) (a0 : List (List MV)) (a1 : Int) : ev fu (n + 1) 167 [.list a0, .int .i64 a1] [] = (slices_Index_Sint_int_L1 fu n fu a0 a1 ((List.length a0 : Nat) : Int) (0 : Int)) := evalF_seg rfl Tryz.func167 rfl rfl rfl rfl (by kernel_rfl)
theorem base_Plain_eq (fu n : Nat) (a0 : ByteArray) : ev fu (n + 1) 57 [.str a0] [] = (rB (ev fu n 104 [.str a0, .bool false] []) fun x1 => (cnd x1 (rB (ev fu n 93 [.str a0, .str (⟨#[32]⟩ : ByteArray)] []) fun x2 => (cnd (!x2) (rB (ev fu n 105 [.str a0, .str (⟨#[32]⟩ : ByteArray)] []) fun x3 => (cnd (!x3) (rB (ev fu n 100 [.str a0, .str (⟨#[32, 32]⟩ : ByteArray)] []) fun x4 => (some ([.bool (!x4)], []))) (some ([.bool false], [])))) (some ([.bool false], [])))) (some ([.bool false], [])))) := evalF_seg rfl Tryz.func57 rfl rfl rfl rfl (by kernel_rfl)
theorem chaselaw2_has_1_eq (fu n : Nat) (a0_0 : ByteArray) (a0_1 : ByteArray) (a0_2 : Int) (a0_3 : ByteArray) (a0_4 : Int) (a0_5 : ByteArray) (a0_6 : ByteArray) (q0 : List MV) : ev fu (n + 1) 88 [.agg [.str a0_0, .str a0_1, .int .i64 a0_2, .str a0_3, .int .i64 a0_4, .str a0_5, .str a0_6], .cptr q0 0] [] = (cel q0 0 fun m1 => (dS m1 fun x2 => (some ([.bool (decide (a0_0 = x2))], [])))) := evalF_seg rfl Tryz.func88 rfl rfl rfl rfl (by kernel_rfl)
theorem internal_stringslite_HasPrefix_eq (fu n : Nat) (a0 : ByteArray) (a1 : ByteArray) : ev fu (n + 1) 123 [.str a0, .str a1] [] = (cnd (decide (((a1).size : Int) ≤ ((a0).size : Int))) (slS a0 ((0 : Nat) : Int) ((a1).size : Int) fun s1 => (some ([.bool (decide (s1 = a1))], []))) (some ([.bool false], []))) := evalF_seg rfl Tryz.func123 rfl rfl rfl rfl (by kernel_rfl)
theorem base_In_eq (fu n : Nat) (a0 : Int) (a1 : Int) (a2 : Int) : ev fu (n + 1) 101 [.int .i64 a0, .int .i64 a1, .int .i64 a2] [] = (cnd (decide (a1 ≤ a0)) (some ([.bool (decide (a0 ≤ a2))], [])) (some ([.bool false], []))) := evalF_seg rfl Tryz.func101 rfl rfl rfl rfl (by kernel_rfl)
theorem strings_HasSuffix_eq (fu n : Nat) (a0 : ByteArray) (a1 : ByteArray) : ev fu (n + 1) 105 [.str a0, .str a1] [] = (rB (ev fu n 135 [.str a0, .str a1] []) fun x1 => (some ([.bool x1], []))) := evalF_seg rfl Tryz.func105 rfl rfl rfl rfl (by kernel_rfl)
end Go.Pv
/- Equations of functions, in parts. -/

/- Laws of streams: what they hand out lies in its range. -/
namespace Go.Pv
open Go Go.Proofs

/-- A stream in memory. -/
abbrev sb (ls : List Int) (at_ : Int) : Bxs := [some (.box [.list (ls.map i1), .int .i64 at_])]

def belowV (x n : Int) : Int := if n < 1 then 0 else if x.tmod n < 0 then IntKind.i64.wrap (x.tmod n + n) else x.tmod n

theorem belowV_range {x n : Int} (h : 1 ≤ n) (h2 : n < 4611686018427387904) : 0 ≤ belowV x n ∧ belowV x n < n := by
  unfold belowV
  have h3 : x.tmod n < n := Int.tmod_lt_of_pos x (by omega)
  have h4 : -n < x.tmod n := by
    have := Int.lt_tmod_of_pos x (show 0 < n by omega); omega
  rw [if_neg (by omega)]
  split
  · rw [w64 (by omega) (by omega)]; omega
  · omega

theorem Below_ok (fu n : Nat) (x m : Int) : ev fu (n + 1) 71 [.int .i64 x, .int .i64 m] [] = some ([.int .i64 (belowV x m)], []) := by
  rw [chasemake_Below_eq]
  unfold belowV
  by_cases h1 : m < 1
  · simp [h1]
  · by_cases h2 : x.tmod m < 0
    · simp [h1, h2, gd_pos (show m ≠ 0 by omega)]
    · simp [h1, h2, gd_pos (show m ≠ 0 by omega)]

theorem Next_ok (fu n : Nat) (ls : List Int) (at_ m : Int) (h0 : 0 ≤ at_) (h1 : at_ < 4611686018427387904) :
    ∃ v, (1 ≤ m → m < 4611686018427387904 → 0 ≤ v ∧ v < m) ∧ ev fu (n + 2) 19 [.ptr 0 0, .int .i64 m] (sb ls at_) = some ([.int .i64 v], sb ls (at_ + 1)) := by
  have hw1 : IntKind.i64.wrap (at_ + 1) = at_ + 1 := w64 (by omega) (by omega)
  have hw2 : IntKind.i64.wrap (at_ + 1 - 1) = at_ := by rw [show at_ + 1 - 1 = at_ from by omega]; exact w64 (by omega) (by omega)
  unfold sb
  rw [chasemake_Stream_Next_eq]
  by_cases hl : ls.length = 0
  · refine ⟨belowV (IntKind.i64.wrap ((at_ + 1) * 7919)) m, belowV_range, ?_⟩
    simp only [List.length_map, hl, hw1]
    simp only [cnd_decide]
    rw [if_pos (show ((0 : Nat) : Int) = 0 from rfl), Below_ok, rI_some]
  · have hp : (0 : Int) < ls.length := by omega
    have g0 : 0 ≤ at_.tmod ls.length := Int.tmod_nonneg _ h0
    have g1 : at_.tmod ls.length < ls.length := Int.tmod_lt_of_pos _ hp
    have hi : (at_.tmod ls.length).toNat < ls.length := by omega
    have he : (ls.map i1)[(at_.tmod ls.length).toNat]? = some [.int .i64 ls[(at_.tmod ls.length).toNat]] := map_get i1 hi
    have hne : ((ls.length : Nat) : Int) ≠ 0 := by omega
    refine ⟨belowV (IntKind.i64.wrap (belowV ls[(at_.tmod ls.length).toNat] 1073741824 + IntKind.i64.wrap (IntKind.i64.wrap (at_.tdiv ls.length) * IntKind.i64.wrap (7919 + at_.tmod ls.length)))) m, belowV_range, ?_⟩
    · simp only [List.length_map, hw1, hw2, eqM_self', cnd_decide, if_neg hne, gd_pos hne, rd_get g0 he, List.length_cons, List.length_nil, cel_zero, dI_int, Below_ok, rI_some]
      rw [gd_pos (by simp)]

theorem Range_ok (fu n : Nat) (ls : List Int) (at_ lo hi : Int) (h0 : 0 ≤ at_) (h1 : at_ < 4611686018427387904) (hl : lo ≤ hi) (hb0 : -1000000000000 ≤ lo) (hb1 : hi ≤ 1000000000000) :
    ∃ v, (lo ≤ v ∧ v ≤ hi) ∧ ev fu (n + 3) 9 [.ptr 0 0, .int .i64 lo, .int .i64 hi] (sb ls at_) = some ([.int .i64 v], sb ls (at_ + 1)) := by
  obtain ⟨v, hv, h⟩ := Next_ok fu n ls at_ (hi - lo + 1) h0 h1
  have hv2 := hv (by omega) (by omega)
  have e1 : IntKind.i64.wrap (hi - lo) = hi - lo := w64 (by omega) (by omega)
  have e2 : IntKind.i64.wrap (hi - lo + 1) = hi - lo + 1 := w64 (by omega) (by omega)
  have e3 : IntKind.i64.wrap (lo + v) = lo + v := w64 (by omega) (by omega)
  refine ⟨lo + v, by omega, ?_⟩
  unfold sb at *
  rw [chasemake_Stream_Range_eq]
  simp only [e1, e2, cnd_decide]
  rw [if_neg (by omega), h]
  simp only [skI_some, skB_some, skS_some, callE_some', unXN_nil, unC_cons, dI_int, unN_nil, unX_cons, dBx_box, dL_list, unXN_nil, e3]

theorem Flip_ok (fu n : Nat) (ls : List Int) (at_ m : Int) (h0 : 0 ≤ at_) (h1 : at_ < 4611686018427387904) :
    ∃ b, ev fu (n + 3) 45 [.ptr 0 0, .int .i64 m] (sb ls at_) = some ([.bool b], sb ls (at_ + 1)) := by
  obtain ⟨v, hv, h⟩ := Next_ok fu n ls at_ m h0 h1
  refine ⟨decide (v = 0), ?_⟩
  unfold sb at *
  rw [chasemake_Stream_Flip_eq, h]
  simp only [skI_some, skB_some, skS_some, callE_some', unXN_nil, unC_cons, dI_int, unN_nil, unX_cons, dBx_box, dL_list, unXN_nil]

theorem Pick_ok (fu n : Nat) (ls : List Int) (at_ : Int) (xs : List Int) (h0 : 0 ≤ at_) (h1 : at_ < 4611686018427387904) (hx : 1 ≤ xs.length) (hx2 : xs.length < 1000000) :
    ∃ v, v ∈ xs ∧ ev fu (n + 3) 20 [.ptr 0 0, .list (xs.map i1)] (sb ls at_) = some ([.int .i64 v], sb ls (at_ + 1)) := by
  obtain ⟨v, hv, h⟩ := Next_ok fu n ls at_ xs.length h0 h1
  have hv2 := hv (by omega) (by omega)
  have hi : v.toNat < xs.length := by omega
  refine ⟨xs[v.toNat], List.getElem_mem hi, ?_⟩
  have he : (xs.map i1)[v.toNat]? = some [.int .i64 xs[v.toNat]] := map_get i1 hi
  unfold sb at *
  rw [chasemake_Stream_Pick_eq]
  simp only [List.length_map]
  rw [h]
  simp only [skI_some, skB_some, skS_some, callE_some', unXN_nil, unC_cons, dI_int, unN_nil, unX_cons, dBx_box, dL_list, unXN_nil, rd_get hv2.1 he, List.length_cons, List.length_nil, cel_zero]
  rw [gd_pos (by simp)]

/-- The same, for a row that is written out. -/
theorem Pick_okL (fu n : Nat) (ls : List Int) (at_ : Int) (es : List (List MV)) (xs : List Int) (he : es = xs.map i1) (h0 : 0 ≤ at_) (h1 : at_ < 4611686018427387904) (hx : 1 ≤ xs.length) (hx2 : xs.length < 1000000) :
    ∃ v, v ∈ xs ∧ ev fu (n + 3) 20 [.ptr 0 0, .list es] (sb ls at_) = some ([.int .i64 v], sb ls (at_ + 1)) := by
  subst he; exact Pick_ok fu n ls at_ xs h0 h1 hx hx2

end Go.Pv
/- Laws that many chapters use: loops, rows, first errors, keys, strings of streams. -/
namespace Go.Pv
open Go Go.Proofs

section
variable {α : Type}
@[simp] theorem cel_1 (a b : MV) (r : List MV) (K : MV → Option α) : cel (a :: b :: r) 1 K = K b := rfl
@[simp] theorem cel_2 (a b c : MV) (r : List MV) (K : MV → Option α) : cel (a :: b :: c :: r) 2 K = K c := rfl
@[simp] theorem cel_3 (a b c d : MV) (r : List MV) (K : MV → Option α) : cel (a :: b :: c :: d :: r) 3 K = K d := rfl
@[simp] theorem cel_4 (a b c d e : MV) (r : List MV) (K : MV → Option α) : cel (a :: b :: c :: d :: e :: r) 4 K = K e := rfl
theorem slS_pos {s : ByteArray} {l h : Int} (h1 : 0 ≤ l ∧ l ≤ h ∧ h ≤ (s.size : Int)) (K : ByteArray → Option α) : slS s l h K = K (s.extract l.toNat h.toNat) := if_pos h1
theorem i64s {n : Nat} (h : n < 9223372036854775807) : IntKind.i64.wrap ((n : Int) + 1) = ((n + 1 : Nat) : Int) := by rw [w64 (by omega) (by omega)]; omega
theorem rdm {β : Type} {f : β → List MV} {xs : List β} {i : Nat} (h : i < xs.length) (K : List MV → Option α) : rd (xs.map f) (i : Int) K = K (f xs[i]) := rd_nat (by simp [h]) K
theorem wid_map {β : Type} {sz : Nat} {f : β → List MV} (hf : ∀ x, (f x).length = sz) : ∀ (xs : List β), wid sz (xs.map f) = true
  | [] => rfl
  | a :: r => by
    simp only [List.map_cons, wid, hf]
    rw [show Nat.beq sz sz = true from Nat.beq_refl sz]
    exact wid_map hf r

/-! ### Loops -/
/-- A loop that goes through a row: each round ends it or goes on. -/
def runL {σ : Type} (step : Nat → σ → α → Out ⊕ σ) (fin : σ → Out) : Nat → σ → List α → Out
  | _, s, [] => fin s
  | i, s, x :: r => match step i s x with
    | .inl o => o
    | .inr s' => runL step fin (i + 1) s' r
theorem loop_ok {σ : Type} (xs : List α) (Inv : Nat → σ → Prop) (L : Nat → Int → σ → Out) (step : Nat → σ → α → Out ⊕ σ) (fin : σ → Out)
    (h0 : ∀ k s, Inv xs.length s → L (k + 1) (xs.length : Nat) s = fin s)
    (h1 : ∀ k (i : Nat) s (hi : i < xs.length), Inv i s → L (k + 1) i s = (match step i s xs[i] with | .inl o => o | .inr s' => L k ((i + 1 : Nat) : Int) s'))
    (h2 : ∀ (i : Nat) s s' (hi : i < xs.length), Inv i s → step i s xs[i] = .inr s' → Inv (i + 1) s') :
    ∀ (m i k : Nat) (s : σ), i + m = xs.length → m < k → Inv i s → L k i s = runL step fin i s (xs.drop i)
  | m, i, 0, s, hi, hk, hs => by omega
  | 0, i, k + 1, s, hi, hk, hs => by
    have : i = xs.length := by omega
    subst this
    rw [h0 k s hs, List.drop_of_length_le (Nat.le_refl _)]; rfl
  | m + 1, i, k + 1, s, hi, hk, hs => by
    have hlt : i < xs.length := by omega
    rw [h1 k i s hlt hs, List.drop_eq_getElem_cons hlt, runL]
    split
    · rfl
    · rename_i s' e
      exact loop_ok xs Inv L step fin h0 h1 h2 m (i + 1) k s' (by omega) (by omega) (h2 i s s' hlt hs e)

/-- The first error of a row; what is kept meanwhile. -/
def errL {σ : Type} (f : Nat → σ → α → Int) (nx : Nat → σ → α → σ) : Nat → σ → List α → Int × σ
  | _, s, [] => (0, s)
  | i, s, x :: r => if f i s x = 0 then errL f nx (i + 1) (nx i s x) r else (f i s x, s)
def errO (e : Int) (o : Out) : Out := if e = 0 then o else some ([.int .i64 e], [])
theorem errO_0 (o : Out) : errO 0 o = o := rfl
theorem err_loop {σ : Type} (xs : List α) (L : Nat → Int → σ → Out) (f : Nat → σ → α → Int) (nx : Nat → σ → α → σ) (fin : σ → Out)
    (h0 : ∀ k s, L (k + 1) (xs.length : Nat) s = fin s)
    (h1 : ∀ k (i : Nat) s (hi : i < xs.length), L (k + 1) i s = errO (f i s xs[i]) (L k ((i + 1 : Nat) : Int) (nx i s xs[i]))) :
    ∀ (m i k : Nat) (s : σ), i + m = xs.length → m < k → L k i s = errO (errL f nx i s (xs.drop i)).1 (fin (errL f nx i s (xs.drop i)).2)
  | m, i, 0, s, hi, hk => by omega
  | 0, i, k + 1, s, hi, hk => by
    have : i = xs.length := by omega
    subst this
    rw [h0 k s, List.drop_of_length_le (Nat.le_refl _)]; rfl
  | m + 1, i, k + 1, s, hi, hk => by
    have hlt : i < xs.length := by omega
    rw [h1 k i s hlt, List.drop_eq_getElem_cons hlt, errL]
    by_cases e : f i s xs[i] = 0
    · rw [if_pos e, e, errO_0]
      exact err_loop xs L f nx fin h0 h1 m (i + 1) k _ (by omega) (by omega)
    · rw [if_neg e]
      show errO _ _ = errO (f i s xs[i]) (fin s)
      unfold errO; rw [if_neg e, if_neg e]
theorem errL_congr {σ : Type} {f g : Nat → σ → α → Int} {nx : Nat → σ → α → σ} : ∀ (xs : List α) (i : Nat) (s : σ), (∀ (j : Nat) (s : σ) (x : α), xs[j]? = some x → f (i + j) s x = g (i + j) s x) → errL f nx i s xs = errL g nx i s xs
  | [], i, s, h => rfl
  | x :: r, i, s, h => by
    have h0 := h 0 s x rfl
    simp only [Nat.add_zero] at h0
    unfold errL
    rw [h0]
    split
    · exact errL_congr r (i + 1) _ (fun j s y hy => by
        have := h (j + 1) s y (by simpa using hy)
        rw [show i + (j + 1) = i + 1 + j by omega] at this; exact this)
    · rfl

/-- The place of the first that is so; -1: there is none. -/
def fIx (p : α → Bool) : Nat → List α → Int
  | _, [] => -1
  | i, x :: r => if p x then (i : Int) else fIx p (i + 1) r
theorem fIx_any (p : α → Bool) : ∀ (xs : List α) (i : Nat), decide (0 ≤ fIx p i xs) = xs.any p
  | [], i => rfl
  | x :: r, i => by
    unfold fIx
    rw [List.any_cons]
    cases h : p x with
    | true => simp
    | false => simp [fIx_any p r (i + 1)]
end

/-! ### First errors -/
@[simp] theorem i1_len (x : Int) : (i1 x).length = 1 := rfl
/-- The first that is not zero. -/
def fnz : List Int → Int
  | [] => 0
  | x :: r => if x = 0 then fnz r else x
theorem First_ok (fu n : Nat) (xs : List Int) (hfu : 1000000 ≤ fu) (hl : xs.length ≤ 400000) :
    ev fu (n + 1) 62 [.list (xs.map i1)] [] = some ([.int .i64 (fnz xs)], []) := by
  have h := err_loop xs (fun k i (_ : Unit) => base_First_L1 fu n k (xs.map i1) (xs.length : Nat) i) (fun _ _ x => x) (fun _ s _ => s) (fun _ => some ([.int .i64 0], []))
    (fun k s => by rw [base_First_L1_eq, cnd_decide, if_neg (by omega)])
    (fun k i s hi => by
      rw [base_First_L1_eq, cnd_decide, if_pos (by omega), rdm hi, gd_pos (i1_len _)]
      simp only [i1, cel_zero, dI_int, cnd_not, cnd_decide]
      rw [i64s (by omega)]; rfl) xs.length 0 fu () (by omega) (by omega)
  rw [base_First_eq, List.length_map]
  refine h.trans ?_
  rw [List.drop_zero]
  have e : ∀ (l : List Int) (i : Nat), (errL (σ := Unit) (fun _ _ x => x) (fun _ s _ => s) i () l).1 = fnz l := by
    intro l
    induction l with
    | nil => intro i; rfl
    | cons a r ih =>
      intro i
      unfold errL fnz
      split
      · exact ih (i + 1)
      · rfl
  rw [e xs 0]
  unfold errO
  split
  · rename_i h; rw [h]
  · rfl
theorem When_ok (fu n : Nat) (b : Bool) (e : Int) : ev fu (n + 1) 63 [.bool b, .int .i64 e] [] = some ([.int .i64 (if b then e else 0)], []) := by
  rw [base_When_eq]; cases b <;> exact rfl
def inB (x a b : Int) : Bool := decide (a ≤ x ∧ x ≤ b)
theorem In_ok (fu n : Nat) (x a b : Int) : ev fu (n + 1) 101 [.int .i64 x, .int .i64 a, .int .i64 b] [] = some ([.bool (inB x a b)], []) := by
  rw [base_In_eq, cnd_decide]; unfold inB
  by_cases h : a ≤ x
  · rw [if_pos h]; simp [h]
  · rw [if_neg h]; simp [h]
theorem in_ok (fu n : Nat) (x a b : Int) : ev fu (n + 1) 52 [.int .i64 x, .int .i64 a, .int .i64 b] [] = some ([.bool (inB x a b)], []) := by
  rw [chaseref2_in_eq, cnd_decide]; unfold inB
  by_cases h : a ≤ x
  · rw [if_pos h]; simp [h]
  · rw [if_neg h]; simp [h]

/-! ### Keys -/
theorem small_ok (fu n : Nat) (x : Int) : ev fu (n + 1) 102 [.int .u8 x] [] = some ([.bool (inB x 97 122)], []) := by
  rw [base_small_eq, cnd_decide]; unfold inB
  by_cases h : 97 ≤ x
  · rw [if_pos h]; simp [h]
  · rw [if_neg h]; simp [h]
theorem Digit_ok (fu n : Nat) (x : Int) : ev fu (n + 1) 103 [.int .u8 x] [] = some ([.bool (inB x 48 57)], []) := by
  rw [base_Digit_eq, cnd_decide]; unfold inB
  by_cases h : 48 ≤ x
  · rw [if_pos h]; simp [h]
  · rw [if_neg h]; simp [h]
def keyC (x : Int) : Bool := inB x 97 122 || (inB x 48 57 || (decide (x = 45) || decide (x = 95)))
def keyFrom (s : ByteArray) (i : Nat) : Nat → Bool
  | 0 => true
  | m + 1 => keyC (bAt s i) && keyFrom s (i + 1) m
def keyS (s : ByteArray) : Bool := inB s.size 1 40 && (inB (bAt s 0) 97 122 && keyFrom s 0 s.size)
theorem Key_L1 (fu n : Nat) (s : ByteArray) (hs : s.size ≤ 400000) : ∀ (m i k1 : Nat), i + m = s.size → m < k1 →
    base_Key_L1 fu (n + 1) k1 s (s.size : Nat) i = some ([.bool (keyFrom s i m)], [])
  | m, i, 0, hi, hk => by omega
  | 0, i, k1 + 1, hi, hk => by rw [base_Key_L1_eq, cnd_decide, if_neg (by omega)]; rfl
  | m + 1, i, k1 + 1, hi, hk => by
    rw [base_Key_L1_eq, cnd_decide, if_pos (by omega), ixS_pos (by omega) (by omega), small_ok, rB_some, Digit_ok, rB_some, Int.toNat_natCast]
    simp only [cnd_not]
    rw [i64s (by omega), Key_L1 fu n s hs m (i + 1) k1 (by omega) (by omega), keyFrom]
    unfold keyC
    cases inB (bAt s i) 97 122 <;> cases inB (bAt s i) 48 57 <;> cases decide (bAt s i = 45) <;> cases decide (bAt s i = 95) <;> rfl
theorem Key_ok (fu n : Nat) (s : ByteArray) (hfu : 1000000 ≤ fu) :
    ev fu (n + 2) 55 [.str s] [] = some ([.bool (keyS s)], []) := by
  rw [base_Key_eq, In_ok, rB_some, cnd_not]
  unfold keyS
  by_cases h : inB (s.size : Int) 1 40 = true
  · have hb : 1 ≤ (s.size : Int) ∧ (s.size : Int) ≤ 40 := by simp [inB] at h; omega
    have hl := Key_L1 fu n s (by omega) s.size 0 fu (by omega) (by omega)
    rw [h, cnd_true, ixS_pos (by omega) (by show 0 < s.size; omega), small_ok, rB_some, cnd_not]
    cases hx : inB (bAt s 0) 97 122
    · have hx2 : inB (bAt s (0 : Int).toNat) 97 122 = false := hx
      rw [hx2, cnd_false]; exact rfl
    · have hx2 : inB (bAt s (0 : Int).toNat) 97 122 = true := hx
      rw [hx2, cnd_true]
      exact hl
  · rw [Bool.eq_false_iff.2 h, cnd_false]; exact rfl

/-! #### As the reference tells them -/
theorem dw_nil {β : Type} (p : β → Bool) : ∀ l : List β, l.dropWhile p = [] ↔ ∀ x ∈ l, p x = true
  | [] => by simp
  | a :: r => by
    rw [List.dropWhile_cons]
    by_cases h : p a = true
    · rw [if_pos h, dw_nil p r]
      exact ⟨fun q x hx => (List.mem_cons.1 hx).elim (fun e => e ▸ h) (q x), fun q x hx => q x (List.mem_cons_of_mem _ hx)⟩
    · rw [if_neg h]
      exact ⟨fun q => (by cases q), fun q => absurd (q a (List.mem_cons_self ..)) h⟩
theorem dw_head {β : Type} (p : β → Bool) : ∀ (l : List β) (a : β) (r : List β), l.dropWhile p = a :: r → p a = false
  | [], a, r, h => by cases h
  | b :: l, a, r, h => by
    rw [List.dropWhile_cons] at h
    by_cases hb : p b = true
    · rw [if_pos hb] at h; exact dw_head p l a r h
    · rw [if_neg hb] at h; cases h; exact Bool.eq_false_iff.2 hb
theorem trim_nil (l cs : List UInt8) : Go.Lib.trimS l cs = [] ↔ ∀ b ∈ l, cs.contains b = true := by
  unfold Go.Lib.trimS Go.Lib.trimLeftS Go.Lib.trimRightS
  rw [dw_nil]
  constructor
  · intro h
    have h2 : ∀ x ∈ l.reverse.dropWhile (cs.contains ·), cs.contains x = true := fun x hx => h x (List.mem_reverse.2 hx)
    have h3 : l.reverse.dropWhile (cs.contains ·) = [] := by
      cases hd : l.reverse.dropWhile (cs.contains ·) with
      | nil => rfl
      | cons a r =>
        have hn := dw_head _ _ _ _ hd
        rw [hd] at h2
        rw [h2 a (List.mem_cons_self ..)] at hn; cases hn
    rw [dw_nil] at h3
    intro b hb; exact h3 b (List.mem_reverse.2 hb)
  · intro h x hx
    have h3 : l.reverse.dropWhile (cs.contains ·) = [] := (dw_nil _ _).2 fun b hb => h b (List.mem_reverse.1 hb)
    rw [h3] at hx; simp at hx
def allIn (s c : ByteArray) : Bool := s.data.toList.all (c.data.toList.contains ·)
theorem Trim_ev (fu n : Nat) (s c : ByteArray) (h : s.size ≤ 9223372036854775807 ∧ c.size < 4294967281 ∧ c.data.toList.all (fun b => decide (b.toNat < 128)) = true) : ev fu (n + 1) 99 [.str s, .str c] [] = some ([.str ⟨(Go.Lib.trimS s.data.toList c.data.toList).toArray⟩], []) := by
  have e : ev fu (n + 1) 99 [.str s, .str c] [] = trimH (evs fu n) [.str s, .str c] [] := rfl
  rw [e]; exact if_pos h
theorem only_ok (fu n : Nat) (s c : ByteArray) (h : s.size ≤ 9223372036854775807 ∧ c.size < 4294967281 ∧ c.data.toList.all (fun b => decide (b.toNat < 128)) = true) : ev fu (n + 2) 75 [.str s, .str c] [] = some ([.bool (allIn s c)], []) := by
  rw [chaseref2_only_eq, Trim_ev fu n s c h, rS_some]
  have e : decide ((⟨(Go.Lib.trimS s.data.toList c.data.toList).toArray⟩ : ByteArray) = ⟨#[]⟩) = allIn s c := by
    have e1 : ((⟨(Go.Lib.trimS s.data.toList c.data.toList).toArray⟩ : ByteArray) = ⟨#[]⟩) ↔ Go.Lib.trimS s.data.toList c.data.toList = [] := by
      constructor
      · intro h; have := congrArg (fun b => b.data.toList) h; simpa using this
      · intro h; rw [h]
    unfold allIn
    by_cases hx : Go.Lib.trimS s.data.toList c.data.toList = []
    · rw [decide_eq_true (e1.2 hx)]
      exact (List.all_eq_true.2 ((trim_nil _ _).1 hx)).symm
    · rw [decide_eq_false (fun q => hx (e1.1 q))]
      symm; rw [Bool.eq_false_iff]; intro q
      exact hx ((trim_nil _ _).2 (List.all_eq_true.1 q))
  rw [e]
def smallsB : ByteArray := ⟨#[97, 98, 99, 100, 101, 102, 103, 104, 105, 106, 107, 108, 109, 110, 111, 112, 113, 114, 115, 116, 117, 118, 119, 120, 121, 122]⟩
def keyCs : ByteArray := ⟨#[97, 98, 99, 100, 101, 102, 103, 104, 105, 106, 107, 108, 109, 110, 111, 112, 113, 114, 115, 116, 117, 118, 119, 120, 121, 122, 48, 49, 50, 51, 52, 53, 54, 55, 56, 57, 45, 95]⟩
theorem small_mem (b : UInt8) : smallsB.data.toList.contains b = inB (b.toNat : Int) 97 122 := by
  have h : ∀ n : Fin 256, smallsB.data.toList.contains (UInt8.ofNat n.val) = inB (n.val : Int) 97 122 := by decide +kernel
  have h2 := h ⟨b.toNat, b.toNat_lt⟩
  simpa using h2
theorem key_mem (b : UInt8) : keyCs.data.toList.contains b = keyC (b.toNat : Int) := by
  have h : ∀ n : Fin 256, keyCs.data.toList.contains (UInt8.ofNat n.val) = keyC (n.val : Int) := by decide +kernel
  have h2 := h ⟨b.toNat, b.toNat_lt⟩
  simpa using h2
theorem bAt_el (s : ByteArray) {i : Nat} (h : i < s.data.toList.length) : bAt s i = ((s.data.toList[i]).toNat : Int) := by
  unfold bAt
  have h2 : i < s.data.size := by simpa using h
  rw [Array.getD_eq_getD_getElem?, Array.getElem?_eq_getElem h2]; simp
theorem keyFrom_all (s : ByteArray) : ∀ (m i : Nat), i + m = s.data.toList.length → keyFrom s i m = (s.data.toList.drop i).all (keyCs.data.toList.contains ·)
  | 0, i, h => by rw [List.drop_of_length_le (by omega)]; rfl
  | m + 1, i, h => by
    rw [List.drop_eq_getElem_cons (by omega), List.all_cons, keyFrom, keyFrom_all s m (i + 1) (by omega), key_mem, bAt_el s (by omega)]
theorem keyS_eq (s : ByteArray) : keyS s = (inB (s.size : Int) 1 40 && (inB (bAt s 0) 97 122 && allIn s keyCs)) := by
  unfold keyS allIn
  have hs : s.size = s.data.toList.length := by simp
  rw [hs, keyFrom_all s s.data.toList.length 0 (by omega), List.drop_zero]
theorem RKey_ok (fu n : Nat) (s : ByteArray) : ev fu (n + 3) 26 [.str s] [] = some ([.bool (keyS s)], []) := by
  rw [chaseref2_Key_eq, in_ok, rB_some, keyS_eq]
  by_cases h : inB (s.size : Int) 1 40 = true
  · have hb : 1 ≤ (s.size : Int) ∧ (s.size : Int) ≤ 40 := by simp [inB] at h; omega
    have hl : 0 < s.data.toList.length := by simp; omega
    have ha : allIn (s.extract 0 1) smallsB = inB (bAt s 0) 97 122 := by
      unfold allIn
      have e : (s.extract 0 1).data.toList = [s.data.toList[0]] := by
        have e1 : (s.extract 0 1).data.toList = (s.data.toList.drop 0).take 1 := by
          simp [ByteArray.extract, ByteArray.copySlice]
        rw [e1, List.drop_eq_getElem_cons hl]; rfl
      rw [e, List.all_cons, List.all_nil, Bool.and_true, small_mem, bAt_el s hl]
    have hz : (s.extract 0 1).size ≤ 9223372036854775807 := by rw [ByteArray.size_extract]; omega
    have o1 := only_ok fu n (s.extract 0 1) smallsB ⟨hz, by decide, by decide⟩
    have o2 := only_ok fu n s keyCs ⟨by omega, by decide, by decide⟩
    rw [ha] at o1
    unfold smallsB at o1
    unfold keyCs at o2
    have e0 : ((0 : Nat) : Int).toNat = 0 := rfl
    have e1 : (1 : Int).toNat = 1 := rfl
    rw [h, cnd_true, slS_pos (by omega), e0, e1, o1, rB_some]
    cases hx : inB (bAt s 0) 97 122
    · rw [cnd_false]; rfl
    · rw [cnd_true, o2, rB_some]; rfl
  · rw [Bool.eq_false_iff.2 h, cnd_false]; rfl

/-! ### Rows of strings -/
def sS (s : ByteArray) : List MV := [.str s]
@[simp] theorem npL_sS (s : ByteArray) : npL (sS s) = true := rfl
@[simp] theorem sS_len (s : ByteArray) : (sS s).length = 1 := rfl
def strs (l : List ByteArray) : List (List MV) := l.map sS
@[simp] theorem strs_len (l : List ByteArray) : (strs l).length = l.length := by simp [strs]
def sIx (s : ByteArray) (l : List ByteArray) : Int := fIx (fun x => decide (s = x)) 0 l
theorem IndexS_ok (fu n : Nat) (l : List ByteArray) (s : ByteArray) (hl : l.length ≤ 400000) (hfu : 1000000 ≤ fu) :
    ev fu (n + 1) 115 [.list (strs l), .str s] [] = some ([.int .i64 (sIx s l)], []) := by
  have h := loop_ok l (fun _ _ => True) (fun k i (_ : Unit) => slices_Index_Sstring_string_L1 fu n k (strs l) s (l.length : Nat) i) (fun i _ x => if s = x then .inl (some ([.int .i64 (i : Nat)], [])) else .inr ()) (fun _ => some ([.int .i64 (-1)], []))
    (fun k s _ => by rw [slices_Index_Sstring_string_L1_eq, cnd_decide, if_neg (by omega)])
    (fun k i _ hi _ => by
      rw [slices_Index_Sstring_string_L1_eq, cnd_decide, if_pos (by omega), strs, rdm hi, gd_pos (sS_len _)]
      simp only [sS, cel_zero, dS_str, cnd_decide]
      rw [i64s (by omega)]
      by_cases e : s = l[i]
      · simp only [if_pos e]
      · simp only [if_neg e]) (fun _ _ _ _ _ _ => trivial) l.length 0 fu () (by omega) (by omega) trivial
  rw [slices_Index_Sstring_string_eq, strs_len]
  refine h.trans ?_
  rw [List.drop_zero]
  unfold sIx
  have e : ∀ (l : List ByteArray) (i : Nat), runL (σ := Unit) (fun i _ x => if s = x then .inl (some ([.int .i64 (i : Nat)], [])) else .inr ()) (fun _ => some ([.int .i64 (-1)], [])) i () l = some ([.int .i64 (fIx (fun x => decide (s = x)) i l)], []) := by
    intro l
    induction l with
    | nil => intro i; rfl
    | cons a r ih =>
      intro i
      unfold runL fIx
      by_cases e : s = a
      · simp [e]
      · simp only [if_neg e, decide_eq_false e]; exact ih (i + 1)
  exact e l 0
theorem ContainsS_ok (fu n : Nat) (l : List ByteArray) (s : ByteArray) (hl : l.length ≤ 400000) (hfu : 1000000 ≤ fu) :
    ev fu (n + 2) 77 [.list (strs l), .str s] [] = some ([.bool (l.any fun x => decide (s = x))], []) := by
  rw [slices_Contains_Sstring_string_eq, IndexS_ok fu n l s hl hfu, rI_some]
  unfold sIx
  rw [fIx_any]

/-! ### What streams pick -/
theorem some10_ok (fu n : Nat) (ls : List Int) (at_ : Int) (es : List (List MV)) (xs : List ByteArray) (he : es = strs xs) (h0 : 0 ≤ at_) (h1 : at_ < 4611686018427387904) (hx : 1 ≤ xs.length) (hx2 : xs.length < 1000000) :
    ∃ v, v ∈ xs ∧ ev fu (n + 3) 46 [.ptr 0 0, .list es] (sb ls at_) = some ([.str v], sb ls (at_ + 1)) := by
  subst he
  obtain ⟨v, hv, h⟩ := Next_ok fu n ls at_ xs.length h0 h1
  have hv2 := hv (by omega) (by omega)
  have hi : v.toNat < xs.length := by omega
  refine ⟨xs[v.toNat], List.getElem_mem hi, ?_⟩
  have he : (strs xs)[v.toNat]? = some [.str xs[v.toNat]] := map_get sS hi
  unfold sb at *
  rw [chasemake_Stream_some10_eq]
  simp only [strs_len]
  rw [h]
  simp only [skI_some, skB_some, skS_some, callE_some', unXN_nil, unC_cons, dI_int, unN_nil, unX_cons, dBx_box, dL_list, unXN_nil, rd_get hv2.1 he, List.length_cons, List.length_nil, cel_zero, dS_str]
  rw [gd_pos (by simp)]
end Go.Pv
/- Chapter 6: layouts and values; the checks of both sides. -/
namespace Go.Pv
open Go Go.Proofs

/-! ### More of errors and searches -/
theorem cnd_err (x : Int) (o : Out) : cnd (!decide (x = 0)) (some ([.int .i64 x], [])) o = errO x o := by
  rw [cnd_not, cnd_decide]; unfold errO
  split <;> rfl
theorem cnd_errc (b : Bool) (c : Int) (hc : c ≠ 0) (o : Out) : cnd b (some ([.int .i64 c], [])) o = errO (if b then c else 0) o := by
  cases b
  · rfl
  · unfold errO; rw [if_pos rfl, if_neg hc]; rfl
theorem errO_errO (a b : Int) (o : Out) : errO a (errO b o) = errO (fnz [a, b]) o := by
  unfold errO fnz fnz fnz
  by_cases ha : a = 0
  · simp only [if_pos ha]
    by_cases hb : b = 0
    · simp only [if_pos hb, if_true]
    · simp only [if_neg hb]
  · simp only [if_neg ha]
theorem errO_fin (a : Int) : errO a (some ([.int .i64 0], [])) = some ([.int .i64 a], []) := by
  unfold errO; split
  · rename_i h; rw [h]
  · rfl
theorem find_loop {α : Type} (xs : List α) (p : α → Bool) (L : Nat → Int → Out) (h0 : ∀ k, L (k + 1) (xs.length : Nat) = some ([.int .i64 (-1)], []))
    (h1 : ∀ k (i : Nat) (hi : i < xs.length), L (k + 1) i = if p xs[i] then some ([.int .i64 (i : Nat)], []) else L k ((i + 1 : Nat) : Int)) :
    ∀ (m i k : Nat), i + m = xs.length → m < k → L k i = some ([.int .i64 (fIx p i (xs.drop i))], [])
  | m, i, 0, hi, hk => by omega
  | 0, i, k + 1, hi, hk => by
    have : i = xs.length := by omega
    subst this
    rw [h0 k, List.drop_of_length_le (Nat.le_refl _)]; rfl
  | m + 1, i, k + 1, hi, hk => by
    have hlt : i < xs.length := by omega
    rw [h1 k i hlt, List.drop_eq_getElem_cons hlt, fIx]
    split
    · rfl
    · exact find_loop xs p L h0 h1 m (i + 1) k (by omega) (by omega)
theorem fIx_find {α : Type} (p : α → Bool) : ∀ (xs : List α) (i : Nat), (fIx p i xs = -1 ∧ xs.find? p = none) ∨ ∃ (k : Nat) (x : α), fIx p i xs = ((i + k : Nat) : Int) ∧ xs[k]? = some x ∧ xs.find? p = some x
  | [], i => .inl ⟨rfl, rfl⟩
  | x :: r, i => by
    unfold fIx
    rw [List.find?_cons]
    cases h : p x with
    | true => exact .inr ⟨0, x, by simp, rfl, rfl⟩
    | false =>
      rcases fIx_find p r (i + 1) with ⟨h1, h2⟩ | ⟨k, y, h1, h2, h3⟩
      · exact .inl ⟨h1, h2⟩
      · exact .inr ⟨k + 1, y, by rw [if_neg (by simp), h1]; congr 1; omega, by simpa using h2, h3⟩
theorem rdn {α β : Type} {f : β → List MV} {xs : List β} {i : Nat} {x : β} (h : xs[i]? = some x) (K : List MV → Option α) : rd (xs.map f) (i : Int) K = K (f x) := rd_nat (by simp [h]) K
section
variable (fu n : Nat) (hfu : 1000000 ≤ fu)
include hfu
theorem First2_ok (a b : Int) : ev fu (n + 1) 62 [.list [[.int .i64 a], [.int .i64 b]]] [] = some ([.int .i64 (fnz [a, b])], []) := First_ok fu n [a, b] hfu (by simp)
end

/-! ### Layouts -/
structure Ask where
  field : ByteArray
  choices : List ByteArray
  many : Bool
  spread : Int
structure Rule where
  kind : Int
  field : ByteArray
  iff' : ByteArray
  other : ByteArray
  thn : ByteArray
structure Lay where
  asks : List Ask
  rules : List Rule
structure Choice where
  field : ByteArray
  choices : List ByteArray
def askC (a : Ask) : List MV := [.str a.field, .list (strs a.choices), .bool a.many, .int .i64 a.spread]
def ruleC (r : Rule) : List MV := [.int .i64 r.kind, .str r.field, .str r.iff', .str r.other, .str r.thn]
def choC (c : Choice) : List MV := [.str c.field, .list (strs c.choices)]
@[simp] theorem askC_len (a : Ask) : (askC a).length = 4 := rfl
@[simp] theorem ruleC_len (a : Rule) : (ruleC a).length = 5 := rfl
@[simp] theorem choC_len (a : Choice) : (choC a).length = 2 := rfl
/-- Rows are not too long for the loops' clocks. -/
structure LayOk (L : Lay) : Prop where
  asks : L.asks.length ≤ 200000
  rules : L.rules.length ≤ 200000
  choices : ∀ a ∈ L.asks, a.choices.length ≤ 200000
structure ValOk (v : List Choice) : Prop where
  len : v.length ≤ 300000
  choices : ∀ c ∈ v, c.choices.length ≤ 200000

section
variable {α : Type}
end

/-! ### The errors of a layout -/
end Go.Pv
/- Chapter 6: layouts, values and broken rules; both sides are one. -/
namespace Go.Pv
open Go Go.Proofs

/-! ### Values -/
def valsM (v : List Choice) : MV := .list (v.map choC)
end Go.Pv
/- Chapter 6: broken rules, both sides; what streams make. -/
namespace Go.Pv
open Go Go.Proofs

/-! ### Broken rules -/
/-! ### What streams make -/
theorem odd10_ok (fu n : Nat) (ls : List Int) (at_ lo hi : Int) (h0 : 0 ≤ at_) (h1 : at_ < 4000000000000000000) (hl : lo ≤ hi) (hb0 : -1000000000000 ≤ lo) (hb1 : hi ≤ 1000000000000) :
    ∃ v a, 0 ≤ a ∧ a ≤ at_ + 2 ∧ ev fu (n + 4) 48 [.ptr 0 0, .int .i64 lo, .int .i64 hi] (sb ls at_) = some ([.int .i64 v], sb ls a) := by
  obtain ⟨b, g1⟩ := Flip_ok fu n ls at_ 12 h0 (by omega)
  rw [chasemake_Stream_odd10_eq, g1, skB_some]
  cases b
  · obtain ⟨v, hv, g2⟩ := Range_ok fu n ls (at_ + 1) lo hi (by omega) (by omega) hl hb0 hb1
    rw [cnd_false, g2, skI_some]
    exact ⟨v, _, by omega, by omega, rfl⟩
  · obtain ⟨v, hv, g2⟩ := Pick_okL fu n ls (at_ + 1) [[.int .i64 (IntKind.i64.wrap (lo - 1))], [.int .i64 (IntKind.i64.wrap (hi + 1))], [.int .i64 lo], [.int .i64 hi], [.int .i64 (-1099511627776)], [.int .i64 1099511627776]] [IntKind.i64.wrap (lo - 1), IntKind.i64.wrap (hi + 1), lo, hi, -1099511627776, 1099511627776] rfl (by omega) (by omega) (by simp) (by simp)
    rw [cnd_true, g2, skI_some]
    exact ⟨v, _, by omega, by omega, rfl⟩
end Go.Pv
/- Chapter 6: layouts and values that streams make. -/
namespace Go.Pv
open Go Go.Proofs

theorem ixG_n {α : Type} {n i : Nat} (h : i < n) (o : Option α) : ixG n (i : Int) o = o := ixG_pos (by omega) (by simpa using h) o
/-- Texts of streams are short. -/
def szS (s : ByteArray) : Prop := s.size ≤ 10
theorem sz_mem {x : ByteArray} {xs : List ByteArray} (h : x ∈ xs) (hb : xs.all (fun c => Nat.ble c.size 10) = true) : szS x := by
  have := List.all_eq_true.1 hb x h
  exact Nat.le_of_ble_eq_true this
structure RuleS (r : Rule) : Prop where
  field : szS r.field
  iff' : szS r.iff'
  other : szS r.other
  thn : szS r.thn
structure AskS (a : Ask) : Prop where
  field : szS a.field
  len : a.choices.length ≤ 3
  choices : ∀ c ∈ a.choices, szS c
/-- A layout of streams is small. -/
structure LayS (L : Lay) : Prop where
  alen : L.asks.length ≤ 3
  rlen : L.rules.length ≤ 3
  asks : ∀ a ∈ L.asks, AskS a
  rules : ∀ r ∈ L.rules, RuleS r
theorem LayS.ok {L : Lay} (h : LayS L) : LayOk L := ⟨by have := h.alen; omega, by have := h.rlen; omega, fun a ha => by have := (h.asks a ha).len; omega⟩
/-- A right rule. -/
structure RuleR (r : Rule) : Prop where
  s : RuleS r
  kind : r.kind = 1 ∨ r.kind = 2
/-- What a right layout has. -/
structure LayR (L : Lay) : Prop where
  asks : 2 ≤ L.asks.length ∧ L.asks.length ≤ 3
  rules : L.rules.length ≤ 2
  s : ∀ a ∈ L.asks, AskS a
  spread : ∀ a ∈ L.asks, 0 ≤ a.spread ∧ a.spread ≤ 2
  kind : ∀ r ∈ L.rules, RuleR r
theorem LayR.sm {L : Lay} (h : LayR L) : LayS L := ⟨by have := h.asks; omega, by have := h.rules; omega, h.s, fun r hr => (h.kind r hr).s⟩
theorem LayR.ok {L : Lay} (h : LayR L) : LayOk L := h.sm.ok
theorem LayR.choices {L : Lay} (h : LayR L) : ∀ a ∈ L.asks, a.choices.length ≤ 3 := fun a ha => (h.s a ha).len
end Go.Pv
/- What all laws of chapter 6 end with; contracts of laws. -/
namespace Go.Pv
open Go Go.Proofs

def ints (xs : List Int) : MV := .list (xs.map fun x => [.int .i64 x])
theorem law_spec {g : FuncId} {fu n : Nat} {ls : List Int} (h : ev fu n g [.list (ls.map i1)] [] = some ([.bool true], [])) : SpecB Tryz.prog g [ints ls] [] [.bool true] [] :=
  ev_sound fu n g [ints ls] [] _ _ h
end Go.Pv
/- Chapter 6: values that streams make; the law ValueChecks. -/
namespace Go.Pv
open Go Go.Proofs

end Go.Pv
/- Copies of rows, and rows that are the same. -/
namespace Go.Pv
open Go Go.Proofs

theorem true_loop {α : Type} (xs : List α) (L : Nat → Int → Out)
    (h0 : ∀ k, L (k + 1) (xs.length : Nat) = some ([.bool true], []))
    (h1 : ∀ k (i : Nat) (hi : i < xs.length), L (k + 1) i = L k ((i + 1 : Nat) : Int)) : ∀ (m i k : Nat), i + m = xs.length → m < k → L k i = some ([.bool true], [])
  | m, i, 0, hi, hk => by omega
  | 0, i, k + 1, hi, hk => by
    have : i = xs.length := by omega
    subst this
    exact h0 k
  | m + 1, i, k + 1, hi, hk => by
    rw [h1 k i (by omega)]
    exact true_loop xs L h0 h1 m (i + 1) k (by omega) (by omega)
theorem EqualS_same (fu n : Nat) (l : List ByteArray) (hl : l.length ≤ 400000) (hfu : 1000000 ≤ fu) : ev fu (n + 1) 28 [.list (strs l), .list (strs l)] [] = some ([.bool true], []) := by
  have h := true_loop l (fun k i => slices_Equal_Sstring_string_L1 fu n k (strs l) (strs l) (l.length : Nat) i)
    (fun k => by rw [slices_Equal_Sstring_string_L1_eq, cnd_decide, if_neg (by omega)])
    (fun k i hi => by
      have hrd : ∀ K : List MV → Out, rd (strs l) (i : Int) K = K (sS l[i]) := fun K => by unfold strs; exact rdm hi K
      rw [slices_Equal_Sstring_string_L1_eq, cnd_decide, if_pos (by omega), hrd, gd_pos (sS_len _)]
      simp only [sS, cel_zero, dS_str]
      rw [hrd, gd_pos (sS_len _)]
      simp only [sS, cel_zero, dS_str, decide_true, Bool.not_true, cnd_false]
      rw [i64s (by omega)]) l.length 0 fu (by omega) (by omega)
  rw [slices_Equal_Sstring_string_eq, decide_eq_true rfl, Bool.not_true, cnd_false, strs_len]
  exact h
end Go.Pv
