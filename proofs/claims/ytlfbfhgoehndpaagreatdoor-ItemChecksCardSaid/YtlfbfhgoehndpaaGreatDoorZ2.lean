/- Equations of functions. Printed by he.py. -/
import Derived.Test.YtlfbfhgoehndpaaGreatDoorZ1
import Derived.Test.YtlfbfhgoehndpaaGreatDoorHU
import Derived.Test.YtlfbfhgoehndpaaGreatDoorZ0
set_option maxRecDepth 100000
set_option linter.unusedVariables false
set_option linter.unusedSimpArgs false
namespace Go.Pv
open Go Go.Proofs
theorem chasemake_Stream_Item_eq (fu n : Nat) (p0_0 : List (List MV)) (p0_1 : Int) (a1 : ByteArray) : ev fu (n + 1) 10 [.ptr 0 0, .str a1] [some (.box [.list p0_0, .int .i64 p0_1])] = (skS (ev fu n 46 [.ptr 0 0, .list ([[.str (⟨#[97, 110, 110]⟩ : ByteArray)], [.str (⟨#[98, 111, 98]⟩ : ByteArray)], [.str (⟨#[99, 105, 100]⟩ : ByteArray)]] : List (List MV))] [some (.box [.list p0_0, .int .i64 p0_1])]) fun l3 a4 x5 => (skI .i64 (ev fu n 20 [.ptr 0 0, .list ([[.int .i64 (1 : Int)], [.int .i64 (1 : Int)], [.int .i64 (1 : Int)], [.int .i64 (2 : Int)], [.int .i64 (3 : Int)], [.int .i64 (3 : Int)], [.int .i64 (4 : Int)]] : List (List MV))] [some (.box [.list l3, .int .i64 a4])]) fun l8 a9 x10 => (skS (ev fu n 46 [.ptr 0 0, .list ([[.str (⟨#[]⟩ : ByteArray)], [.str (⟨#[109, 101, 109, 111]⟩ : ByteArray)], [.str (⟨#[84, 104, 101, 32, 100, 101, 97, 108]⟩ : ByteArray)], [.str (⟨#[120, 45, 49, 46, 116, 120, 116]⟩ : ByteArray)]] : List (List MV))] [some (.box [.list l8, .int .i64 a9])]) fun l13 a14 x15 => (skI .i64 (ev fu n 20 [.ptr 0 0, .list ([[.int .i64 (0 : Int)], [.int .i64 (10 : Int)], [.int .i64 (100 : Int)], [.int .i64 (1439 : Int)], [.int .i64 (1440 : Int)], [.int .i64 (5000 : Int)], [.int .i64 (20000 : Int)]] : List (List MV))] [some (.box [.list l13, .int .i64 a14])]) fun l18 a19 x20 => (skS (ev fu n 49 [.ptr 0 0] [some (.box [.list l18, .int .i64 a19])]) fun l23 a24 x25 => (skS (ev fu n 49 [.ptr 0 0] [some (.box [.list l23, .int .i64 a24])]) fun l28 a29 x30 => (skS (ev fu n 46 [.ptr 0 0, .list ([[.str (⟨#[]⟩ : ByteArray)], [.str (⟨#[111, 110, 101, 10]⟩ : ByteArray)], [.str (⟨#[111, 110, 101, 10, 116, 119, 111, 10]⟩ : ByteArray)], [.str x25], [.str x30]] : List (List MV))] [some (.box [.list l28, .int .i64 a29])]) fun l33 a34 x35 => (skB (ev fu n 45 [.ptr 0 0, .int .i64 (60 : Int)] [some (.box [.list l33, .int .i64 a34])]) fun l38 a39 x40 => (cnd x40 (skI .i64 (ev fu n 19 [.ptr 0 0, .int .i64 (6 : Int)] [some (.box [.list l38, .int .i64 a39])]) fun l43 a44 x45 => (cnd (decide (x45 = (0 : Int))) (skS (ev fu n 46 [.ptr 0 0, .list ([[.str (⟨#[]⟩ : ByteArray)], [.str (⟨#[65]⟩ : ByteArray)], [.str a1]] : List (List MV))] [some (.box [.list l43, .int .i64 a44])]) fun l48 a49 x50 => (skS (ev fu n 46 [.ptr 0 0, .list ([[.str (⟨#[]⟩ : ByteArray)], [.str (⟨#[65, 110, 110]⟩ : ByteArray)], [.str (⟨#[97, 110, 110]⟩ : ByteArray)]] : List (List MV))] [some (.box [.list l48, .int .i64 a49])]) fun l53 a54 x55 => (some ([.agg [.str x50, .str x55, .int .i64 x10, .str x15, .int .i64 x20, .str ByteArray.empty, .str x35]], [some (.box [.list l53, .int .i64 a54])])))) (cnd (decide (x45 = (1 : Int))) (skI .i64 (ev fu n 48 [.ptr 0 0, .int .i64 (1 : Int), .int .i64 (4 : Int)] [some (.box [.list l43, .int .i64 a44])]) fun l58 a59 x60 => (some ([.agg [.str a1, .str x5, .int .i64 x60, .str x15, .int .i64 x20, .str ByteArray.empty, .str x35]], [some (.box [.list l58, .int .i64 a59])]))) (cnd (decide (x45 = (2 : Int))) (skI .i64 (ev fu n 20 [.ptr 0 0, .list ([[.int .i64 (120 : Int)], [.int .i64 (121 : Int)]] : List (List MV))] [some (.box [.list l43, .int .i64 a44])]) fun l63 a64 x65 => (rS (ev fu n 50 [.str (⟨#[97]⟩ : ByteArray), .int .i64 x65] []) fun x66 => (skS (ev fu n 46 [.ptr 0 0, .list ([[.str (⟨#[32, 97]⟩ : ByteArray)], [.str (⟨#[97, 32, 32, 98]⟩ : ByteArray)], [.str (⟨#[97, 10]⟩ : ByteArray)], [.str (⟨#[255]⟩ : ByteArray)], [.str x66]] : List (List MV))] [some (.box [.list l63, .int .i64 a64])]) fun l69 a70 x71 => (some ([.agg [.str a1, .str x5, .int .i64 x10, .str x71, .int .i64 x20, .str ByteArray.empty, .str x35]], [some (.box [.list l69, .int .i64 a70])]))))) (cnd (decide (x45 = (3 : Int))) (skI .i64 (ev fu n 48 [.ptr 0 0, .int .i64 (0 : Int), .int .i64 (5761439 : Int)] [some (.box [.list l43, .int .i64 a44])]) fun l74 a75 x76 => (some ([.agg [.str a1, .str x5, .int .i64 x10, .str x15, .int .i64 x76, .str ByteArray.empty, .str x35]], [some (.box [.list l74, .int .i64 a75])]))) (cnd (decide (x45 = (4 : Int))) (skS (ev fu n 46 [.ptr 0 0, .list ([[.str (⟨#[65]⟩ : ByteArray)], [.str a1], [.str (⟨#[57]⟩ : ByteArray)]] : List (List MV))] [some (.box [.list l43, .int .i64 a44])]) fun l79 a80 x81 => (some ([.agg [.str a1, .str x5, .int .i64 x10, .str x15, .int .i64 x20, .str x81, .str x35]], [some (.box [.list l79, .int .i64 a80])]))) (skI .i64 (ev fu n 20 [.ptr 0 0, .list ([[.int .i64 (19999 : Int)], [.int .i64 (20000 : Int)]] : List (List MV))] [some (.box [.list l43, .int .i64 a44])]) fun l84 a85 x86 => (rS (ev fu n 50 [.str (⟨#[97]⟩ : ByteArray), .int .i64 x86] []) fun x87 => (stG x87 (⟨#[10]⟩ : ByteArray) (skS (ev fu n 46 [.ptr 0 0, .list ([[.str (⟨#[110, 111, 32, 101, 110, 100]⟩ : ByteArray)], [.str (⟨#[1, 10]⟩ : ByteArray)], [.str (⟨#[127, 10]⟩ : ByteArray)], [.str (⟨#[255, 10]⟩ : ByteArray)], [.str (x87 ++ (⟨#[10]⟩ : ByteArray))]] : List (List MV))] [some (.box [.list l84, .int .i64 a85])]) fun l90 a91 x92 => (some ([.agg [.str a1, .str x5, .int .i64 x10, .str x15, .int .i64 x20, .str ByteArray.empty, .str x92]], [some (.box [.list l90, .int .i64 a91])])))))))))))) (some ([.agg [.str a1, .str x5, .int .i64 x10, .str x15, .int .i64 x20, .str ByteArray.empty, .str x35]], [some (.box [.list l38, .int .i64 a39])]))))))))))) := evalF_seg rfl Tryz.func10 rfl rfl rfl rfl (by kernel_rfl)
theorem chaselaw2_ItemChecks_eq (fu n : Nat) (a0 : List (List MV)) : ev fu (n + 1) 3 [.list a0] [] = (skI .i64 (ev fu n 9 [.ptr 0 0, .int .i64 (0 : Int), .int .i64 (8 : Int)] [some (.box [.list a0, .int .i64 (0 : Int)])]) fun l3 a4 x5 => (callE (ev fu n 8 [.ptr 0 0, .int .i64 x5] [some (.box [.list l3, .int .i64 a4])]) fun r6 B7 => (unX B7 fun o8 B9 => (dBx o8 fun c10 => (unC c10 fun m11 c12 => (dL m11 fun x13 => (unC c12 fun m14 c15 => (dI .i64 m14 fun x16 => (unN c15 (unX B9 fun o17 B18 => (dRw false 7 o17 fun x19 => (unXN B18 (unC r6 fun m20 r21 => (dRf 1 m20 (unN r21 (callE (ev fu n 10 [.ptr 0 0, .str (⟨#[105, 97]⟩ : ByteArray)] [some (.box [.list x13, .int .i64 x16])]) fun r22 B23 => (unX B23 fun o24 B25 => (dBx o24 fun c26 => (unC c26 fun m27 c28 => (dL m27 fun x29 => (unC c28 fun m30 c31 => (dI .i64 m30 fun x32 => (unN c31 (unXN B25 (unC r22 fun m33 r34 => (dA m33 fun c35 => (unC c35 fun m36 c37 => (dS m36 fun x38 => (unC c37 fun m39 c40 => (dS m39 fun x41 => (unC c40 fun m42 c43 => (dI .i64 m42 fun x44 => (unC c43 fun m45 c46 => (dS m45 fun x47 => (unC c46 fun m48 c49 => (dI .i64 m48 fun x50 => (unC c49 fun m51 c52 => (dS m51 fun x53 => (unC c52 fun m54 c55 => (dS m54 fun x56 => (unN c55 (unN r34 (callE (ev fu n 11 [.agg [.str x38, .str x41, .int .i64 x44, .str x47, .int .i64 x50, .str x53, .str x56]] []) fun r57 B58 => unXN B58 (unC r57 fun m59 r60 => (dS m59 fun x61 => (unC r60 fun m62 r63 => (dI .i64 m62 fun x64 => (unN r63 (rI .i64 (ev fu n 12 [.agg [.str x38, .str x41, .int .i64 x44, .str x47, .int .i64 x50, .str x53, .str x56]] []) fun x65 => (rI .i64 (ev fu n 13 [.agg [.str x38, .str x41, .int .i64 x44, .str x47, .int .i64 x50, .str x53, .str x56]] []) fun x66 => (cnd (!decide (x66 = x65)) (some ([.bool false], [])) (cnd (!decide (x64 = x65)) (some ([.bool false], [])) (cnd (decide (x65 = (0 : Int))) (rS (ev fu n 14 [.agg [.str x38, .str x41, .int .i64 x44, .str x47, .int .i64 x50, .str x53, .str x56]] []) fun x67 => (cnd (!decide (x61 = x67)) (some ([.bool false], [])) (cnd (!decide (x65 = (0 : Int))) (cnd (!decide (x61 = (⟨#[]⟩ : ByteArray))) (some ([.bool false], [])) (rI .i64 (ev fu n 15 [.list x19] []) fun x68 => (rI .i64 (ev fu n 16 [.list x19] []) fun x69 => (cnd (decide (x68 = x69)) (rB (ev fu n 17 [] []) fun x70 => (some ([.bool x70], []))) (some ([.bool false], [])))))) (rI .i64 (ev fu n 15 [.list x19] []) fun x71 => (rI .i64 (ev fu n 16 [.list x19] []) fun x72 => (cnd (decide (x71 = x72)) (rB (ev fu n 17 [] []) fun x73 => (some ([.bool x73], []))) (some ([.bool false], [])))))))) (cnd (!decide (x65 = (0 : Int))) (cnd (!decide (x61 = (⟨#[]⟩ : ByteArray))) (some ([.bool false], [])) (rI .i64 (ev fu n 15 [.list x19] []) fun x74 => (rI .i64 (ev fu n 16 [.list x19] []) fun x75 => (cnd (decide (x74 = x75)) (rB (ev fu n 17 [] []) fun x76 => (some ([.bool x76], []))) (some ([.bool false], [])))))) (rI .i64 (ev fu n 15 [.list x19] []) fun x77 => (rI .i64 (ev fu n 16 [.list x19] []) fun x78 => (cnd (decide (x77 = x78)) (rB (ev fu n 17 [] []) fun x79 => (some ([.bool x79], []))) (some ([.bool false], []))))))))))))))))))))))))))))))))))))))))))))))))))))))))))) := evalF_seg rfl Tryz.func3 rfl rfl rfl rfl (by kernel_rfl)
noncomputable abbrev slices_IndexFunc_Sapi_Item_api_Item_L1 (fu n k1 : Nat) (v0 : List (List MV)) (v1f : FuncId) (v1c : List MV) (v7 : Int) (v8 : Int) : Out := lps (env fu) (evs fu n) 0 Tryz.f106 fp106 [1, 0, 1, 0] [] k1 ⟨[(0, .list v0), (1, .fn v1f v1c), (7, .int .i64 v7), (8, .int .i64 v8)], []⟩
theorem slices_IndexFunc_Sapi_Item_api_Item_L1_eq (fu n k1 : Nat) (v0 : List (List MV)) (v1f : FuncId) (v1c : List MV) (v7 : Int) (v8 : Int) : slices_IndexFunc_Sapi_Item_api_Item_L1 fu n (k1 + 1) v0 v1f v1c v7 v8 = (cnd (decide (v8 < v7)) (rd v0 v8 fun e1 => gd (List.length e1 = 7) (gd (0 + 7 ≤ List.length e1) (unC (List.take 7 (List.drop 0 e1)) fun m2 c3 => (dS m2 fun x4 => (unC c3 fun m5 c6 => (dS m5 fun x7 => (unC c6 fun m8 c9 => (dI .i64 m8 fun x10 => (unC c9 fun m11 c12 => (dS m11 fun x13 => (unC c12 fun m14 c15 => (dI .i64 m14 fun x16 => (unC c15 fun m17 c18 => (dS m17 fun x19 => (unC c18 fun m20 c21 => (dS m20 fun x22 => (unN c21 (npG ([.agg [.str x4, .str x7, .int .i64 x10, .str x13, .int .i64 x16, .str x19, .str x22]] ++ v1c) (rB (ev fu n v1f ([.agg [.str x4, .str x7, .int .i64 x10, .str x13, .int .i64 x16, .str x19, .str x22]] ++ v1c) []) fun x23 => (cnd x23 (some ([.int .i64 v8], [])) (slices_IndexFunc_Sapi_Item_api_Item_L1 fu n k1 v0 v1f v1c v7 (IntKind.i64.wrap (v8 + (1 : Int)))))))))))))))))))))))) (some ([.int .i64 (-1 : Int)], []))) := by kernel_rfl
theorem slices_IndexFunc_Sapi_Item_api_Item_eq (fu n : Nat) (a0 : List (List MV)) (a1f : FuncId) (a1c : List MV) : ev fu (n + 1) 106 [.list a0, .fn a1f a1c] [] = (slices_IndexFunc_Sapi_Item_api_Item_L1 fu n fu a0 a1f a1c ((List.length a0 : Nat) : Int) (0 : Int)) := evalF_seg rfl Tryz.func106 rfl rfl rfl rfl (by kernel_rfl)
noncomputable abbrev chaseref2_IsText_L1 (fu n k1 : Nat) (v0 : ByteArray) (v5 : Int) (v6 : Int) : Out := lps (env fu) (evs fu n) 0 Tryz.f54 fp54 [1, 0, 1, 0] [] k1 ⟨[(0, .str v0), (5, .int .i64 v5), (6, .int .i64 v6)], []⟩
theorem chaseref2_IsText_L1_eq (fu n k1 : Nat) (v0 : ByteArray) (v5 : Int) (v6 : Int) : chaseref2_IsText_L1 fu n (k1 + 1) v0 v5 v6 = (cnd (decide (v6 < v5)) (ixS v0 v6 fun x1 => (cnd (decide (x1 < (32 : Int))) (ixS v0 v6 fun x2 => (cnd (!decide (x2 = (10 : Int))) (some ([.bool false], [])) (ixS v0 v6 fun x3 => (cnd (decide (x3 = (127 : Int))) (some ([.bool false], [])) (chaseref2_IsText_L1 fu n k1 v0 v5 (IntKind.i64.wrap (v6 + (1 : Int)))))))) (ixS v0 v6 fun x4 => (cnd (decide (x4 = (127 : Int))) (some ([.bool false], [])) (chaseref2_IsText_L1 fu n k1 v0 v5 (IntKind.i64.wrap (v6 + (1 : Int)))))))) (rB (ev fu n 98 [.str v0] []) fun x5 => (cnd x5 (cnd (decide (v0 = (⟨#[]⟩ : ByteArray))) (some ([.bool true], [])) (ixS v0 (IntKind.i64.wrap (((v0).size : Int) - (1 : Int))) fun x6 => (some ([.bool (decide (x6 = (10 : Int)))], [])))) (some ([.bool false], []))))) := by kernel_rfl
theorem chaseref2_IsText_eq (fu n : Nat) (a0 : ByteArray) : ev fu (n + 1) 54 [.str a0] [] = (chaseref2_IsText_L1 fu n fu a0 ((a0).size : Int) (0 : Int)) := evalF_seg rfl Tryz.func54 rfl rfl rfl rfl (by kernel_rfl)
theorem chasemake_itemId_eq (fu n : Nat) (a0 : Int) : ev fu (n + 1) 47 [.int .i64 a0] [] = (gd ((26 : Int) ≠ 0) (gd ((26 : Int) ≠ 0) (stG (⟨#[105]⟩ : ByteArray) (Utf8.encode (IntKind.i32.wrap (IntKind.i64.wrap ((97 : Int) + (Int.tmod (IntKind.i64.wrap (Int.tdiv a0 (26 : Int))) (26 : Int)))))) (gd ((26 : Int) ≠ 0) (stG ((⟨#[105]⟩ : ByteArray) ++ (Utf8.encode (IntKind.i32.wrap (IntKind.i64.wrap ((97 : Int) + (Int.tmod (IntKind.i64.wrap (Int.tdiv a0 (26 : Int))) (26 : Int))))))) (Utf8.encode (IntKind.i32.wrap (IntKind.i64.wrap ((97 : Int) + (Int.tmod a0 (26 : Int)))))) (some ([.str (((⟨#[105]⟩ : ByteArray) ++ (Utf8.encode (IntKind.i32.wrap (IntKind.i64.wrap ((97 : Int) + (Int.tmod (IntKind.i64.wrap (Int.tdiv a0 (26 : Int))) (26 : Int))))))) ++ (Utf8.encode (IntKind.i32.wrap (IntKind.i64.wrap ((97 : Int) + (Int.tmod a0 (26 : Int)))))))], []))))))) := evalF_seg rfl Tryz.func47 rfl rfl rfl rfl (by kernel_rfl)
theorem chaseref2_SumOf_eq (fu n : Nat) (a0_0 : ByteArray) (a0_1 : ByteArray) (a0_2 : Int) (a0_3 : ByteArray) (a0_4 : Int) (a0_5 : ByteArray) (a0_6 : ByteArray) : ev fu (n + 1) 14 [.agg [.str a0_0, .str a0_1, .int .i64 a0_2, .str a0_3, .int .i64 a0_4, .str a0_5, .str a0_6]] [] = (rS (ev fu n 61 [.int .i64 a0_2] []) fun x1 => (stG x1 (⟨#[10]⟩ : ByteArray) (stG (x1 ++ (⟨#[10]⟩ : ByteArray)) a0_6 (rS (ev fu n 60 [.str ((x1 ++ (⟨#[10]⟩ : ByteArray)) ++ a0_6)] []) fun x2 => (some ([.str x2], [])))))) := evalF_seg rfl Tryz.func14 rfl rfl rfl rfl (by kernel_rfl)
theorem chaseref2_place_1_eq (fu n : Nat) (a0_0 : ByteArray) (a0_1 : ByteArray) (a0_2 : Int) (a0_3 : ByteArray) (a0_4 : Int) (a0_5 : ByteArray) (a0_6 : ByteArray) (q0 : List MV) : ev fu (n + 1) 107 [.agg [.str a0_0, .str a0_1, .int .i64 a0_2, .str a0_3, .int .i64 a0_4, .str a0_5, .str a0_6], .cptr q0 0] [] = (cel q0 0 fun m1 => (dS m1 fun x2 => (some ([.bool (decide (a0_0 = x2))], [])))) := evalF_seg rfl Tryz.func107 rfl rfl rfl rfl (by kernel_rfl)
theorem internal_stringslite_HasPrefix_eq (fu n : Nat) (a0 : ByteArray) (a1 : ByteArray) : ev fu (n + 1) 123 [.str a0, .str a1] [] = (cnd (decide (((a1).size : Int) ≤ ((a0).size : Int))) (slS a0 ((0 : Nat) : Int) ((a1).size : Int) fun s1 => (some ([.bool (decide (s1 = a1))], []))) (some ([.bool false], []))) := evalF_seg rfl Tryz.func123 rfl rfl rfl rfl (by kernel_rfl)
theorem strings_Contains_eq (fu n : Nat) (a0 : ByteArray) (a1 : ByteArray) : ev fu (n + 1) 100 [.str a0, .str a1] [] = (rI .i64 (ev fu n 134 [.str a0, .str a1] []) fun x1 => (some ([.bool (decide ((0 : Int) ≤ x1))], []))) := evalF_seg rfl Tryz.func100 rfl rfl rfl rfl (by kernel_rfl)
theorem base_small_eq (fu n : Nat) (a0 : Int) : ev fu (n + 1) 102 [.int .u8 a0] [] = (cnd (decide ((97 : Int) ≤ a0)) (some ([.bool (decide (a0 ≤ (122 : Int)))], [])) (some ([.bool false], []))) := evalF_seg rfl Tryz.func102 rfl rfl rfl rfl (by kernel_rfl)
end Go.Pv
/- Equations of functions. Printed by he.py. -/
namespace Go.Pv
open Go Go.Proofs
noncomputable abbrev chasemake_Stream_ItemText_L1 (fu n k1 : Nat) (v3 : ByteArray) (v7 : Int) (v8 : Int) (b0_0 : List (List MV)) (b0_1 : Int) : Out := lps (env fu) (evs fu n) 1 Tryz.f49 fp49 [1, 1, 0, 1, 0] [] k1 ⟨[(0, .ptr 0 0), (3, .str v3), (7, .int .i64 v7), (8, .int .i64 v8)], [some (.box [.list b0_0, .int .i64 b0_1])]⟩
noncomputable abbrev chasemake_Stream_ItemText_L2 (fu n k1 k2 : Nat) (v3 : ByteArray) (v7 : Int) (v8 : Int) (v11 : Int) (v12 : Int) (b0_0 : List (List MV)) (b0_1 : Int) : Out := lps (env fu) (evs fu n) 1 Tryz.f49 fp49 [1, 1, 0, 1, 0, 0, 1, 1, 0, 0, 0, 1, 0] [k1] k2 ⟨[(0, .ptr 0 0), (3, .str v3), (7, .int .i64 v7), (8, .int .i64 v8), (11, .int .i64 v11), (12, .int .i64 v12)], [some (.box [.list b0_0, .int .i64 b0_1])]⟩
theorem chasemake_Stream_ItemText_L1_eq (fu n k1 : Nat) (v3 : ByteArray) (v7 : Int) (v8 : Int) (b0_0 : List (List MV)) (b0_1 : Int) : chasemake_Stream_ItemText_L1 fu n (k1 + 1) v3 v7 v8 b0_0 b0_1 = (cnd (decide (v8 < v7)) (skI .i64 (ev fu n 9 [.ptr 0 0, .int .i64 (0 : Int), .int .i64 (6 : Int)] [some (.box [.list b0_0, .int .i64 b0_1])]) fun l3 a4 x5 => (chasemake_Stream_ItemText_L2 fu n k1 fu v3 v7 v8 x5 (0 : Int) l3 a4)) (some ([.str v3], [some (.box [.list b0_0, .int .i64 b0_1])]))) := by kernel_rfl
theorem chasemake_Stream_ItemText_L2_eq (fu n k1 k2 : Nat) (v3 : ByteArray) (v7 : Int) (v8 : Int) (v11 : Int) (v12 : Int) (b0_0 : List (List MV)) (b0_1 : Int) : chasemake_Stream_ItemText_L2 fu n k1 (k2 + 1) v3 v7 v8 v11 v12 b0_0 b0_1 = (cnd (decide (v12 < v11)) (cnd (decide ((0 : Int) < v12)) (skS (ev fu n 46 [.ptr 0 0, .list ([[.str (⟨#[32]⟩ : ByteArray)], [.str (⟨#[32]⟩ : ByteArray)], [.str (⟨#[32]⟩ : ByteArray)], [.str (⟨#[44, 32]⟩ : ByteArray)], [.str (⟨#[45]⟩ : ByteArray)]] : List (List MV))] [some (.box [.list b0_0, .int .i64 b0_1])]) fun l3 a4 x5 => (stG v3 x5 (skS (ev fu n 46 [.ptr 0 0, .list ([[.str (⟨#[100, 101, 97, 108]⟩ : ByteArray)], [.str (⟨#[68, 101, 97, 108]⟩ : ByteArray)], [.str (⟨#[115, 105, 103, 110]⟩ : ByteArray)], [.str (⟨#[115, 105, 103, 110, 101, 100]⟩ : ByteArray)], [.str (⟨#[116, 104, 101]⟩ : ByteArray)], [.str (⟨#[102, 114, 105, 100, 97, 121]⟩ : ByteArray)], [.str (⟨#[99, 111, 110, 116, 114, 97, 99, 116]⟩ : ByteArray)], [.str (⟨#[120, 49]⟩ : ByteArray)], [.str (⟨#[99, 97, 102, 195, 169]⟩ : ByteArray)], [.str (⟨#[97, 110, 100]⟩ : ByteArray)]] : List (List MV))] [some (.box [.list l3, .int .i64 a4])]) fun l8 a9 x10 => (stG (v3 ++ x5) x10 (chasemake_Stream_ItemText_L2 fu n k1 k2 ((v3 ++ x5) ++ x10) v7 v8 v11 (IntKind.i64.wrap (v12 + (1 : Int))) l8 a9))))) (skS (ev fu n 46 [.ptr 0 0, .list ([[.str (⟨#[100, 101, 97, 108]⟩ : ByteArray)], [.str (⟨#[68, 101, 97, 108]⟩ : ByteArray)], [.str (⟨#[115, 105, 103, 110]⟩ : ByteArray)], [.str (⟨#[115, 105, 103, 110, 101, 100]⟩ : ByteArray)], [.str (⟨#[116, 104, 101]⟩ : ByteArray)], [.str (⟨#[102, 114, 105, 100, 97, 121]⟩ : ByteArray)], [.str (⟨#[99, 111, 110, 116, 114, 97, 99, 116]⟩ : ByteArray)], [.str (⟨#[120, 49]⟩ : ByteArray)], [.str (⟨#[99, 97, 102, 195, 169]⟩ : ByteArray)], [.str (⟨#[97, 110, 100]⟩ : ByteArray)]] : List (List MV))] [some (.box [.list b0_0, .int .i64 b0_1])]) fun l13 a14 x15 => (stG v3 x15 (chasemake_Stream_ItemText_L2 fu n k1 k2 (v3 ++ x15) v7 v8 v11 (IntKind.i64.wrap (v12 + (1 : Int))) l13 a14)))) (stG v3 (⟨#[10]⟩ : ByteArray) (chasemake_Stream_ItemText_L1 fu n k1 (v3 ++ (⟨#[10]⟩ : ByteArray)) v7 (IntKind.i64.wrap (v8 + (1 : Int))) b0_0 b0_1))) := by kernel_rfl
theorem chasemake_Stream_ItemText_eq (fu n : Nat) (p0_0 : List (List MV)) (p0_1 : Int) : ev fu (n + 1) 49 [.ptr 0 0] [some (.box [.list p0_0, .int .i64 p0_1])] = (skI .i64 (ev fu n 20 [.ptr 0 0, .list ([[.int .i64 (0 : Int)], [.int .i64 (1 : Int)], [.int .i64 (1 : Int)], [.int .i64 (2 : Int)], [.int .i64 (3 : Int)]] : List (List MV))] [some (.box [.list p0_0, .int .i64 p0_1])]) fun l3 a4 x5 => (chasemake_Stream_ItemText_L1 fu n fu (⟨#[]⟩ : ByteArray) x5 (0 : Int) l3 a4)) := evalF_seg rfl Tryz.func49 rfl rfl rfl rfl (by kernel_rfl)
noncomputable abbrev chaseref2_treeFault_L1 (fu n k1 : Nat) (v0 : List (List MV)) (v9 : Int) (v10 : Int) : Out := lps (env fu) (evs fu n) 0 Tryz.f68 fp68 [1, 0, 1, 0] [] k1 ⟨[(0, .list v0), (9, .int .i64 v9), (10, .int .i64 v10)], []⟩
noncomputable abbrev chaseref2_treeFault_L2 (fu n k1 : Nat) (v0 : List (List MV)) (v18 : Int) (v19 : Int) : Out := lps (env fu) (evs fu n) 0 Tryz.f68 fp68 [1, 1, 0, 1, 0] [] k1 ⟨[(0, .list v0), (18, .int .i64 v18), (19, .int .i64 v19)], []⟩
theorem chaseref2_treeFault_L1_eq (fu n k1 : Nat) (v0 : List (List MV)) (v9 : Int) (v10 : Int) : chaseref2_treeFault_L1 fu n (k1 + 1) v0 v9 v10 = (cnd (decide (v10 < v9)) (rB (ev fu n 108 [.list v0, .int .i64 v10] []) fun x1 => (cnd x1 (some ([.int .i64 (14 : Int)], [])) (chaseref2_treeFault_L1 fu n k1 v0 v9 (IntKind.i64.wrap (v10 + (1 : Int)))))) (chaseref2_treeFault_L2 fu n fu v0 ((List.length v0 : Nat) : Int) (0 : Int))) := by kernel_rfl
theorem chaseref2_treeFault_L2_eq (fu n k1 : Nat) (v0 : List (List MV)) (v18 : Int) (v19 : Int) : chaseref2_treeFault_L2 fu n (k1 + 1) v0 v18 v19 = (cnd (decide (v19 < v18)) (rd v0 v19 fun e1 => gd (List.length e1 = 7) (cel e1 5 fun m2 => (dS m2 fun x3 => (rI .i64 (ev fu n 67 [.list v0, .str x3] []) fun x4 => (rd v0 v19 fun e5 => gd (List.length e5 = 7) (cel e5 5 fun m6 => (dS m6 fun x7 => (cnd (!decide (x7 = (⟨#[]⟩ : ByteArray))) (cnd (decide ((0 : Int) ≤ x4)) (rd v0 x4 fun e8 => gd (List.length e8 = 7) (cel e8 2 fun m9 => (dI .i64 m9 fun x10 => (cnd (!decide (x10 = (1 : Int))) (rd v0 x4 fun e11 => gd (List.length e11 = 7) (cel e11 2 fun m12 => (dI .i64 m12 fun x13 => (cnd (!decide (x13 = (3 : Int))) (some ([.int .i64 (16 : Int)], [])) (callE (ev fu n 82 [.list v0, .int .i64 v19] []) fun r14 B15 => unXN B15 (unC r14 fun m16 r17 => (dL m16 fun x18 => (unC r17 fun m19 r20 => (dB m19 fun x21 => (unN r20 (cnd (decide ((4 : Int) < ((List.length x18 : Nat) : Int))) (some ([.int .i64 (2 : Int)], [])) (chaseref2_treeFault_L2 fu n k1 v0 v18 (IntKind.i64.wrap (v19 + (1 : Int))))))))))))))) (callE (ev fu n 82 [.list v0, .int .i64 v19] []) fun r22 B23 => unXN B23 (unC r22 fun m24 r25 => (dL m24 fun x26 => (unC r25 fun m27 r28 => (dB m27 fun x29 => (unN r28 (cnd (decide ((4 : Int) < ((List.length x26 : Nat) : Int))) (some ([.int .i64 (2 : Int)], [])) (chaseref2_treeFault_L2 fu n k1 v0 v18 (IntKind.i64.wrap (v19 + (1 : Int))))))))))))))) (callE (ev fu n 82 [.list v0, .int .i64 v19] []) fun r30 B31 => unXN B31 (unC r30 fun m32 r33 => (dL m32 fun x34 => (unC r33 fun m35 r36 => (dB m35 fun x37 => (unN r36 (cnd (decide ((4 : Int) < ((List.length x34 : Nat) : Int))) (some ([.int .i64 (2 : Int)], [])) (chaseref2_treeFault_L2 fu n k1 v0 v18 (IntKind.i64.wrap (v19 + (1 : Int)))))))))))) (callE (ev fu n 82 [.list v0, .int .i64 v19] []) fun r38 B39 => unXN B39 (unC r38 fun m40 r41 => (dL m40 fun x42 => (unC r41 fun m43 r44 => (dB m43 fun x45 => (unN r44 (cnd (decide ((4 : Int) < ((List.length x42 : Nat) : Int))) (some ([.int .i64 (2 : Int)], [])) (chaseref2_treeFault_L2 fu n k1 v0 v18 (IntKind.i64.wrap (v19 + (1 : Int))))))))))))))))))) (some ([.int .i64 (0 : Int)], []))) := by kernel_rfl
theorem chaseref2_treeFault_eq (fu n : Nat) (a0 : List (List MV)) : ev fu (n + 1) 68 [.list a0] [] = (chaseref2_treeFault_L1 fu n fu a0 ((List.length a0 : Nat) : Int) (0 : Int)) := evalF_seg rfl Tryz.func68 rfl rfl rfl rfl (by kernel_rfl)
noncomputable abbrev chaseref2_DigestOf_L1 (fu n k1 : Nat) (v0 : ByteArray) (v3 : Int) (v7 : Int) (v8 : Int) : Out := lps (env fu) (evs fu n) 0 Tryz.f60 fp60 [1, 1, 0, 1, 0] [] k1 ⟨[(0, .str v0), (3, .int .u64 v3), (7, .int .i64 v7), (8, .int .i64 v8)], []⟩
noncomputable abbrev chaseref2_DigestOf_L2 (fu n k1 : Nat) (v3 : Int) (v5 : ByteArray) (v37 : Int) : Out := lps (env fu) (evs fu n) 0 Tryz.f60 fp60 [1, 1, 1, 1, 0, 1, 0] [] k1 ⟨[(3, .int .u64 v3), (5, .str v5), (37, .int .i64 v37)], []⟩
theorem chaseref2_DigestOf_L1_eq (fu n k1 : Nat) (v0 : ByteArray) (v3 : Int) (v7 : Int) (v8 : Int) : chaseref2_DigestOf_L1 fu n (k1 + 1) v0 v3 v7 v8 = (cnd (decide (v8 < v7)) (ixS v0 v8 fun x1 => (gd (0 ≤ (40 : Int)) (gd (0 ≤ (8 : Int)) (gd (0 ≤ (7 : Int)) (gd (0 ≤ (5 : Int)) (gd (0 ≤ (4 : Int)) (gd (0 ≤ (1 : Int)) (chaseref2_DigestOf_L1 fu n k1 v0 (IntKind.u64.wrap ((IntKind.u64.wrap ((IntKind.u64.wrap ((IntKind.u64.wrap ((IntKind.u64.wrap ((IntKind.u64.wrap ((shlV .u64 (bitI .xor .u64 v3 (IntKind.u64.wrap x1)) (40 : Int)) + (shlV .u64 (bitI .xor .u64 v3 (IntKind.u64.wrap x1)) (8 : Int)))) + (shlV .u64 (bitI .xor .u64 v3 (IntKind.u64.wrap x1)) (7 : Int)))) + (shlV .u64 (bitI .xor .u64 v3 (IntKind.u64.wrap x1)) (5 : Int)))) + (shlV .u64 (bitI .xor .u64 v3 (IntKind.u64.wrap x1)) (4 : Int)))) + (shlV .u64 (bitI .xor .u64 v3 (IntKind.u64.wrap x1)) (1 : Int)))) + (bitI .xor .u64 v3 (IntKind.u64.wrap x1)))) v7 (IntKind.i64.wrap (v8 + (1 : Int))))))))))) (chaseref2_DigestOf_L2 fu n fu v3 (⟨#[]⟩ : ByteArray) (0 : Int))) := by kernel_rfl
theorem chaseref2_DigestOf_L2_eq (fu n k1 : Nat) (v3 : Int) (v5 : ByteArray) (v37 : Int) : chaseref2_DigestOf_L2 fu n (k1 + 1) v3 v5 v37 = (cnd (decide (v37 < (16 : Int))) (gd ((16 : Int) ≠ 0) (gd ((16 : Int) ≠ 0) (slS (⟨#[48, 49, 50, 51, 52, 53, 54, 55, 56, 57, 97, 98, 99, 100, 101, 102]⟩ : ByteArray) (Int.tmod v3 (16 : Int)) (IntKind.u64.wrap ((Int.tmod v3 (16 : Int)) + (1 : Int))) fun s1 => (stG s1 v5 (gd ((16 : Int) ≠ 0) (chaseref2_DigestOf_L2 fu n k1 (IntKind.u64.wrap (Int.tdiv v3 (16 : Int))) (s1 ++ v5) (IntKind.i64.wrap (v37 + (1 : Int))))))))) (some ([.str v5], []))) := by kernel_rfl
theorem chaseref2_DigestOf_eq (fu n : Nat) (a0 : ByteArray) : ev fu (n + 1) 60 [.str a0] [] = (chaseref2_DigestOf_L1 fu n fu a0 (14695981039346656037 : Int) ((a0).size : Int) (0 : Int)) := evalF_seg rfl Tryz.func60 rfl rfl rfl rfl (by kernel_rfl)
noncomputable abbrev intake_byId_L1 (fu n k1 : Nat) (v3 : List (MKey × MV)) (v7 : List (List MV)) (v8 : Int) (v9 : Int) : Out := lps (env fu) (evs fu n) 0 Tryz.f64 fp64 [1, 1, 0, 1, 0] [] k1 ⟨[(3, .ref 0), (7, .list v7), (8, .int .i64 v8), (9, .int .i64 v9)], [some (.map false v3 [])]⟩
theorem intake_byId_L1_eq (fu n k1 : Nat) (v3 : List (MKey × MV)) (v7 : List (List MV)) (v8 : Int) (v9 : Int) : intake_byId_L1 fu n (k1 + 1) v3 v7 v8 v9 = (cnd (decide (v9 < v8)) (rd v7 v9 fun e1 => gd (List.length e1 = 7) (gd (0 + 7 ≤ List.length e1) (unC (List.take 7 (List.drop 0 e1)) fun m2 c3 => (dS m2 fun x4 => (unC c3 fun m5 c6 => (dS m5 fun x7 => (unC c6 fun m8 c9 => (dI .i64 m8 fun x10 => (unC c9 fun m11 c12 => (dS m11 fun x13 => (unC c12 fun m14 c15 => (dI .i64 m14 fun x16 => (unC c15 fun m17 c18 => (dS m17 fun x19 => (unC c18 fun m20 c21 => (dS m20 fun x22 => (unN c21 (gK v3 (.str x4) (intake_byId_L1 fu n k1 (mset v3 (.str x4) (.agg [.str x4, .str x7, .int .i64 x10, .str x13, .int .i64 x16, .str x19, .str x22])) v7 v8 (IntKind.i64.wrap (v9 + (1 : Int)))))))))))))))))))))) (some ([.map v3], []))) := by kernel_rfl
theorem intake_byId_eq (fu n : Nat) (a0 : List (List MV)) : ev fu (n + 1) 64 [.list a0] [] = (intake_byId_L1 fu n fu ([] : List (MKey × MV)) a0 ((List.length a0 : Nat) : Int) (0 : Int)) := evalF_seg rfl Tryz.func64 rfl rfl rfl rfl (by kernel_rfl)
theorem chasemake_Stream_odd10_eq (fu n : Nat) (p0_0 : List (List MV)) (p0_1 : Int) (a1 : Int) (a2 : Int) : ev fu (n + 1) 48 [.ptr 0 0, .int .i64 a1, .int .i64 a2] [some (.box [.list p0_0, .int .i64 p0_1])] = (skB (ev fu n 45 [.ptr 0 0, .int .i64 (12 : Int)] [some (.box [.list p0_0, .int .i64 p0_1])]) fun l3 a4 x5 => (cnd x5 (skI .i64 (ev fu n 20 [.ptr 0 0, .list ([[.int .i64 (IntKind.i64.wrap (a1 - (1 : Int)))], [.int .i64 (IntKind.i64.wrap (a2 + (1 : Int)))], [.int .i64 a1], [.int .i64 a2], [.int .i64 (-1099511627776 : Int)], [.int .i64 (1099511627776 : Int)]] : List (List MV))] [some (.box [.list l3, .int .i64 a4])]) fun l8 a9 x10 => (some ([.int .i64 x10], [some (.box [.list l8, .int .i64 a9])]))) (skI .i64 (ev fu n 9 [.ptr 0 0, .int .i64 a1, .int .i64 a2] [some (.box [.list l3, .int .i64 a4])]) fun l13 a14 x15 => (some ([.int .i64 x15], [some (.box [.list l13, .int .i64 a14])]))))) := evalF_seg rfl Tryz.func48 rfl rfl rfl rfl (by kernel_rfl)
theorem internal_strconv_FormatUint_eq (fu n : Nat) (a0 : Int) : ev fu (n + 1) 138 [.int .u64 a0, .int .i64 (16 : Int)] [] = (cnd (decide ((16 : Int) = (10 : Int))) (cnd (decide (a0 < (100 : Int))) (rS (ev fu n 170 [.int .i64 (IntKind.i64.wrap a0)] []) fun x1 => (some ([.str x1], []))) none) (callE (ev fu n 173 [.nil, .int .u64 a0, .int .i64 (16 : Int), .bool false, .bool false] []) fun r3 B4 => unXN B4 (unC r3 fun m5 r6 => (dL m5 fun x7 => (unC r6 fun m8 r9 => (dS m8 fun x10 => (unN r9 (some ([.str x10], []))))))))) := evalF_seg rfl Tryz.func138 rfl rfl rfl rfl (by kernel_rfl)
theorem chasemake_Stream_some10_eq (fu n : Nat) (p0_0 : List (List MV)) (p0_1 : Int) (a1 : List (List MV)) : ev fu (n + 1) 46 [.ptr 0 0, .list a1] [some (.box [.list p0_0, .int .i64 p0_1])] = (skI .i64 (ev fu n 19 [.ptr 0 0, .int .i64 ((List.length a1 : Nat) : Int)] [some (.box [.list p0_0, .int .i64 p0_1])]) fun l3 a4 x5 => (rd a1 x5 fun e6 => gd (List.length e6 = 1) (cel e6 0 fun m7 => (dS m7 fun x8 => (some ([.str x8], [some (.box [.list l3, .int .i64 a4])])))))) := evalF_seg rfl Tryz.func46 rfl rfl rfl rfl (by kernel_rfl)
theorem base_Text_eq (fu n : Nat) (a0 : ByteArray) : ev fu (n + 1) 59 [.str a0] [] = (rB (ev fu n 104 [.str a0, .bool true] []) fun x1 => (cnd x1 (cnd (decide (a0 = (⟨#[]⟩ : ByteArray))) (some ([.bool true], [])) (rB (ev fu n 105 [.str a0, .str (⟨#[10]⟩ : ByteArray)] []) fun x2 => (some ([.bool x2], [])))) (some ([.bool false], [])))) := evalF_seg rfl Tryz.func59 rfl rfl rfl rfl (by kernel_rfl)
theorem chaseref2_only_eq (fu n : Nat) (a0 : ByteArray) (a1 : ByteArray) : ev fu (n + 1) 75 [.str a0, .str a1] [] = (rS (ev fu n 99 [.str a0, .str a1] []) fun x1 => (some ([.bool (decide (x1 = (⟨#[]⟩ : ByteArray)))], []))) := evalF_seg rfl Tryz.func75 rfl rfl rfl rfl (by kernel_rfl)
theorem strings_HasSuffix_eq (fu n : Nat) (a0 : ByteArray) (a1 : ByteArray) : ev fu (n + 1) 105 [.str a0, .str a1] [] = (rB (ev fu n 135 [.str a0, .str a1] []) fun x1 => (some ([.bool x1], []))) := evalF_seg rfl Tryz.func105 rfl rfl rfl rfl (by kernel_rfl)
end Go.Pv
/- Equations of functions, in parts. -/

/- Laws of streams: what they hand out lies in its range. -/
namespace Go.Pv
open Go Go.Proofs

/-- A stream in memory. -/
abbrev sb (ls : List Int) (at_ : Int) : Bxs := [some (.box [.list (ls.map i1), .int .i64 at_])]

def belowV (x n : Int) : Int := if n < 1 then 0 else if x.tmod n < 0 then IntKind.i64.wrap (x.tmod n + n) else x.tmod n

theorem belowV_range {x n : Int} (h : 1 ≤ n) (h2 : n < 4611686018427387904) : 0 ≤ belowV x n ∧ belowV x n < n := by
  unfold belowV
  have h3 : x.tmod n < n := Int.tmod_lt_of_pos x (by omega)
  have h4 : -n < x.tmod n := by
    have := Int.lt_tmod_of_pos x (show 0 < n by omega); omega
  rw [if_neg (by omega)]
  split
  · rw [w64 (by omega) (by omega)]; omega
  · omega

theorem Below_ok (fu n : Nat) (x m : Int) : ev fu (n + 1) 71 [.int .i64 x, .int .i64 m] [] = some ([.int .i64 (belowV x m)], []) := by
  rw [chasemake_Below_eq]
  unfold belowV
  by_cases h1 : m < 1
  · simp [h1]
  · by_cases h2 : x.tmod m < 0
    · simp [h1, h2, gd_pos (show m ≠ 0 by omega)]
    · simp [h1, h2, gd_pos (show m ≠ 0 by omega)]

theorem Next_ok (fu n : Nat) (ls : List Int) (at_ m : Int) (h0 : 0 ≤ at_) (h1 : at_ < 4611686018427387904) :
    ∃ v, (1 ≤ m → m < 4611686018427387904 → 0 ≤ v ∧ v < m) ∧ ev fu (n + 2) 19 [.ptr 0 0, .int .i64 m] (sb ls at_) = some ([.int .i64 v], sb ls (at_ + 1)) := by
  have hw1 : IntKind.i64.wrap (at_ + 1) = at_ + 1 := w64 (by omega) (by omega)
  have hw2 : IntKind.i64.wrap (at_ + 1 - 1) = at_ := by rw [show at_ + 1 - 1 = at_ from by omega]; exact w64 (by omega) (by omega)
  unfold sb
  rw [chasemake_Stream_Next_eq]
  by_cases hl : ls.length = 0
  · refine ⟨belowV (IntKind.i64.wrap ((at_ + 1) * 7919)) m, belowV_range, ?_⟩
    simp only [List.length_map, hl, hw1]
    simp only [cnd_decide]
    rw [if_pos (show ((0 : Nat) : Int) = 0 from rfl), Below_ok, rI_some]
  · have hp : (0 : Int) < ls.length := by omega
    have g0 : 0 ≤ at_.tmod ls.length := Int.tmod_nonneg _ h0
    have g1 : at_.tmod ls.length < ls.length := Int.tmod_lt_of_pos _ hp
    have hi : (at_.tmod ls.length).toNat < ls.length := by omega
    have he : (ls.map i1)[(at_.tmod ls.length).toNat]? = some [.int .i64 ls[(at_.tmod ls.length).toNat]] := map_get i1 hi
    have hne : ((ls.length : Nat) : Int) ≠ 0 := by omega
    refine ⟨belowV (IntKind.i64.wrap (belowV ls[(at_.tmod ls.length).toNat] 1073741824 + IntKind.i64.wrap (IntKind.i64.wrap (at_.tdiv ls.length) * IntKind.i64.wrap (7919 + at_.tmod ls.length)))) m, belowV_range, ?_⟩
    · simp only [List.length_map, hw1, hw2, eqM_self', cnd_decide, if_neg hne, gd_pos hne, rd_get g0 he, List.length_cons, List.length_nil, cel_zero, dI_int, Below_ok, rI_some]
      rw [gd_pos (by simp)]

theorem Range_ok (fu n : Nat) (ls : List Int) (at_ lo hi : Int) (h0 : 0 ≤ at_) (h1 : at_ < 4611686018427387904) (hl : lo ≤ hi) (hb0 : -1000000000000 ≤ lo) (hb1 : hi ≤ 1000000000000) :
    ∃ v, (lo ≤ v ∧ v ≤ hi) ∧ ev fu (n + 3) 9 [.ptr 0 0, .int .i64 lo, .int .i64 hi] (sb ls at_) = some ([.int .i64 v], sb ls (at_ + 1)) := by
  obtain ⟨v, hv, h⟩ := Next_ok fu n ls at_ (hi - lo + 1) h0 h1
  have hv2 := hv (by omega) (by omega)
  have e1 : IntKind.i64.wrap (hi - lo) = hi - lo := w64 (by omega) (by omega)
  have e2 : IntKind.i64.wrap (hi - lo + 1) = hi - lo + 1 := w64 (by omega) (by omega)
  have e3 : IntKind.i64.wrap (lo + v) = lo + v := w64 (by omega) (by omega)
  refine ⟨lo + v, by omega, ?_⟩
  unfold sb at *
  rw [chasemake_Stream_Range_eq]
  simp only [e1, e2, cnd_decide]
  rw [if_neg (by omega), h]
  simp only [skI_some, skB_some, skS_some, callE_some', unXN_nil, unC_cons, dI_int, unN_nil, unX_cons, dBx_box, dL_list, unXN_nil, e3]

theorem Flip_ok (fu n : Nat) (ls : List Int) (at_ m : Int) (h0 : 0 ≤ at_) (h1 : at_ < 4611686018427387904) :
    ∃ b, ev fu (n + 3) 45 [.ptr 0 0, .int .i64 m] (sb ls at_) = some ([.bool b], sb ls (at_ + 1)) := by
  obtain ⟨v, hv, h⟩ := Next_ok fu n ls at_ m h0 h1
  refine ⟨decide (v = 0), ?_⟩
  unfold sb at *
  rw [chasemake_Stream_Flip_eq, h]
  simp only [skI_some, skB_some, skS_some, callE_some', unXN_nil, unC_cons, dI_int, unN_nil, unX_cons, dBx_box, dL_list, unXN_nil]

theorem Pick_ok (fu n : Nat) (ls : List Int) (at_ : Int) (xs : List Int) (h0 : 0 ≤ at_) (h1 : at_ < 4611686018427387904) (hx : 1 ≤ xs.length) (hx2 : xs.length < 1000000) :
    ∃ v, v ∈ xs ∧ ev fu (n + 3) 20 [.ptr 0 0, .list (xs.map i1)] (sb ls at_) = some ([.int .i64 v], sb ls (at_ + 1)) := by
  obtain ⟨v, hv, h⟩ := Next_ok fu n ls at_ xs.length h0 h1
  have hv2 := hv (by omega) (by omega)
  have hi : v.toNat < xs.length := by omega
  refine ⟨xs[v.toNat], List.getElem_mem hi, ?_⟩
  have he : (xs.map i1)[v.toNat]? = some [.int .i64 xs[v.toNat]] := map_get i1 hi
  unfold sb at *
  rw [chasemake_Stream_Pick_eq]
  simp only [List.length_map]
  rw [h]
  simp only [skI_some, skB_some, skS_some, callE_some', unXN_nil, unC_cons, dI_int, unN_nil, unX_cons, dBx_box, dL_list, unXN_nil, rd_get hv2.1 he, List.length_cons, List.length_nil, cel_zero]
  rw [gd_pos (by simp)]

/-- The same, for a row that is written out. -/
theorem Pick_okL (fu n : Nat) (ls : List Int) (at_ : Int) (es : List (List MV)) (xs : List Int) (he : es = xs.map i1) (h0 : 0 ≤ at_) (h1 : at_ < 4611686018427387904) (hx : 1 ≤ xs.length) (hx2 : xs.length < 1000000) :
    ∃ v, v ∈ xs ∧ ev fu (n + 3) 20 [.ptr 0 0, .list es] (sb ls at_) = some ([.int .i64 v], sb ls (at_ + 1)) := by
  subst he; exact Pick_ok fu n ls at_ xs h0 h1 hx hx2

end Go.Pv
/- Laws that many chapters use: loops, rows, first errors, keys, strings of streams. -/
namespace Go.Pv
open Go Go.Proofs

section
variable {α : Type}
@[simp] theorem cel_1 (a b : MV) (r : List MV) (K : MV → Option α) : cel (a :: b :: r) 1 K = K b := rfl
@[simp] theorem cel_2 (a b c : MV) (r : List MV) (K : MV → Option α) : cel (a :: b :: c :: r) 2 K = K c := rfl
@[simp] theorem cel_3 (a b c d : MV) (r : List MV) (K : MV → Option α) : cel (a :: b :: c :: d :: r) 3 K = K d := rfl
@[simp] theorem cel_4 (a b c d e : MV) (r : List MV) (K : MV → Option α) : cel (a :: b :: c :: d :: e :: r) 4 K = K e := rfl
theorem slS_pos {s : ByteArray} {l h : Int} (h1 : 0 ≤ l ∧ l ≤ h ∧ h ≤ (s.size : Int)) (K : ByteArray → Option α) : slS s l h K = K (s.extract l.toNat h.toNat) := if_pos h1
theorem slL_pos {sz : Nat} {es : List (List MV)} {l h : Int} (h1 : 0 ≤ l ∧ l ≤ h ∧ h ≤ (es.length : Int)) (h2 : widAt sz es l.toNat = true) (K : List (List MV) → Option α) : slL sz es l h K = K ((es.drop l.toNat).take (h.toNat - l.toNat)) := if_pos ⟨h1, h2⟩
theorem i64s {n : Nat} (h : n < 9223372036854775807) : IntKind.i64.wrap ((n : Int) + 1) = ((n + 1 : Nat) : Int) := by rw [w64 (by omega) (by omega)]; omega
theorem rdm {β : Type} {f : β → List MV} {xs : List β} {i : Nat} (h : i < xs.length) (K : List MV → Option α) : rd (xs.map f) (i : Int) K = K (f xs[i]) := rd_nat (by simp [h]) K
theorem slL_take {β : Type} {sz : Nat} {f : β → List MV} (hf : ∀ x, (f x).length = sz) (xs : List β) {i : Nat} (h : i ≤ xs.length) (K : List (List MV) → Option α) : slL sz (xs.map f) ((0 : Nat) : Int) (i : Int) K = K ((xs.take i).map f) := by
  rw [slL_pos (by simp; omega) (by
    unfold widAt
    cases xs with
    | nil => rfl
    | cons a r => simp [hf])]
  simp [List.map_take]
theorem wid_map {β : Type} {sz : Nat} {f : β → List MV} (hf : ∀ x, (f x).length = sz) : ∀ (xs : List β), wid sz (xs.map f) = true
  | [] => rfl
  | a :: r => by
    simp only [List.map_cons, wid, hf]
    rw [show Nat.beq sz sz = true from Nat.beq_refl sz]
    exact wid_map hf r

/-! ### Loops -/
/-- A loop that goes through a row: each round ends it or goes on. -/
def runL {σ : Type} (step : Nat → σ → α → Out ⊕ σ) (fin : σ → Out) : Nat → σ → List α → Out
  | _, s, [] => fin s
  | i, s, x :: r => match step i s x with
    | .inl o => o
    | .inr s' => runL step fin (i + 1) s' r
theorem loop_ok {σ : Type} (xs : List α) (Inv : Nat → σ → Prop) (L : Nat → Int → σ → Out) (step : Nat → σ → α → Out ⊕ σ) (fin : σ → Out)
    (h0 : ∀ k s, Inv xs.length s → L (k + 1) (xs.length : Nat) s = fin s)
    (h1 : ∀ k (i : Nat) s (hi : i < xs.length), Inv i s → L (k + 1) i s = (match step i s xs[i] with | .inl o => o | .inr s' => L k ((i + 1 : Nat) : Int) s'))
    (h2 : ∀ (i : Nat) s s' (hi : i < xs.length), Inv i s → step i s xs[i] = .inr s' → Inv (i + 1) s') :
    ∀ (m i k : Nat) (s : σ), i + m = xs.length → m < k → Inv i s → L k i s = runL step fin i s (xs.drop i)
  | m, i, 0, s, hi, hk, hs => by omega
  | 0, i, k + 1, s, hi, hk, hs => by
    have : i = xs.length := by omega
    subst this
    rw [h0 k s hs, List.drop_of_length_le (Nat.le_refl _)]; rfl
  | m + 1, i, k + 1, s, hi, hk, hs => by
    have hlt : i < xs.length := by omega
    rw [h1 k i s hlt hs, List.drop_eq_getElem_cons hlt, runL]
    split
    · rfl
    · rename_i s' e
      exact loop_ok xs Inv L step fin h0 h1 h2 m (i + 1) k s' (by omega) (by omega) (h2 i s s' hlt hs e)

/-- The first error of a row; what is kept meanwhile. -/
def errL {σ : Type} (f : Nat → σ → α → Int) (nx : Nat → σ → α → σ) : Nat → σ → List α → Int × σ
  | _, s, [] => (0, s)
  | i, s, x :: r => if f i s x = 0 then errL f nx (i + 1) (nx i s x) r else (f i s x, s)
def errO (e : Int) (o : Out) : Out := if e = 0 then o else some ([.int .i64 e], [])
theorem errO_0 (o : Out) : errO 0 o = o := rfl
theorem err_loop {σ : Type} (xs : List α) (L : Nat → Int → σ → Out) (f : Nat → σ → α → Int) (nx : Nat → σ → α → σ) (fin : σ → Out)
    (h0 : ∀ k s, L (k + 1) (xs.length : Nat) s = fin s)
    (h1 : ∀ k (i : Nat) s (hi : i < xs.length), L (k + 1) i s = errO (f i s xs[i]) (L k ((i + 1 : Nat) : Int) (nx i s xs[i]))) :
    ∀ (m i k : Nat) (s : σ), i + m = xs.length → m < k → L k i s = errO (errL f nx i s (xs.drop i)).1 (fin (errL f nx i s (xs.drop i)).2)
  | m, i, 0, s, hi, hk => by omega
  | 0, i, k + 1, s, hi, hk => by
    have : i = xs.length := by omega
    subst this
    rw [h0 k s, List.drop_of_length_le (Nat.le_refl _)]; rfl
  | m + 1, i, k + 1, s, hi, hk => by
    have hlt : i < xs.length := by omega
    rw [h1 k i s hlt, List.drop_eq_getElem_cons hlt, errL]
    by_cases e : f i s xs[i] = 0
    · rw [if_pos e, e, errO_0]
      exact err_loop xs L f nx fin h0 h1 m (i + 1) k _ (by omega) (by omega)
    · rw [if_neg e]
      show errO _ _ = errO (f i s xs[i]) (fin s)
      unfold errO; rw [if_neg e, if_neg e]
theorem errL_congr {σ : Type} {f g : Nat → σ → α → Int} {nx : Nat → σ → α → σ} : ∀ (xs : List α) (i : Nat) (s : σ), (∀ (j : Nat) (s : σ) (x : α), xs[j]? = some x → f (i + j) s x = g (i + j) s x) → errL f nx i s xs = errL g nx i s xs
  | [], i, s, h => rfl
  | x :: r, i, s, h => by
    have h0 := h 0 s x rfl
    simp only [Nat.add_zero] at h0
    unfold errL
    rw [h0]
    split
    · exact errL_congr r (i + 1) _ (fun j s y hy => by
        have := h (j + 1) s y (by simpa using hy)
        rw [show i + (j + 1) = i + 1 + j by omega] at this; exact this)
    · rfl

/-- The place of the first that is so; -1: there is none. -/
def fIx (p : α → Bool) : Nat → List α → Int
  | _, [] => -1
  | i, x :: r => if p x then (i : Int) else fIx p (i + 1) r
theorem fIx_any (p : α → Bool) : ∀ (xs : List α) (i : Nat), decide (0 ≤ fIx p i xs) = xs.any p
  | [], i => rfl
  | x :: r, i => by
    unfold fIx
    rw [List.any_cons]
    cases h : p x with
    | true => simp
    | false => simp [fIx_any p r (i + 1)]
theorem fIx_ge (p : α → Bool) : ∀ (xs : List α) (i : Nat), fIx p i xs = -1 ∨ ((i : Int) ≤ fIx p i xs ∧ fIx p i xs < (i + xs.length : Nat))
  | [], i => .inl rfl
  | x :: r, i => by
    unfold fIx
    split
    · exact .inr ⟨Int.le_refl _, by simp; omega⟩
    · rcases fIx_ge p r (i + 1) with h | ⟨h1, h2⟩
      · exact .inl h
      · exact .inr ⟨by omega, by simp at h2 ⊢; omega⟩
theorem fIx_range (p : α → Bool) (xs : List α) (h : 0 ≤ fIx p 0 xs) : (fIx p 0 xs).toNat < xs.length := by
  rcases fIx_ge p xs 0 with h1 | ⟨h1, h2⟩
  · omega
  · omega
theorem fIx_get (p : α → Bool) : ∀ (xs : List α) (i : Nat), 0 ≤ fIx p i xs → ∃ x, xs[(fIx p i xs).toNat - i]? = some x ∧ p x = true
  | [], i, h => by simp [fIx] at h
  | x :: r, i, h => by
    unfold fIx at h ⊢
    by_cases hp : p x = true
    · rw [if_pos hp]; exact ⟨x, by simp, hp⟩
    · rw [if_neg hp] at h ⊢
      obtain ⟨y, h1, h2⟩ := fIx_get p r (i + 1) h
      refine ⟨y, ?_, h2⟩
      rcases fIx_ge p r (i + 1) with h3 | ⟨h3, h4⟩
      · omega
      · rw [show (fIx p (i + 1) r).toNat - i = (fIx p (i + 1) r).toNat - (i + 1) + 1 by omega, List.getElem?_cons_succ]; exact h1
/-- Is it there before place k? -/
theorem fIx_lt (p : α → Bool) : ∀ (xs : List α) (i k : Nat), (∃ x, xs[k]? = some x ∧ p x = true) → decide (fIx p i xs < ((i + k : Nat) : Int)) = (xs.take k).any p
  | [], i, k, ⟨x, h, _⟩ => by simp at h
  | y :: r, i, 0, ⟨x, h, hp⟩ => by
    simp at h; subst h
    unfold fIx; rw [if_pos hp]; simp
  | y :: r, i, k + 1, ⟨x, h, hp⟩ => by
    unfold fIx
    rw [List.take_succ_cons, List.any_cons]
    cases hy : p y with
    | true => rw [if_pos rfl]; simp; omega
    | false =>
      have := fIx_lt p r (i + 1) k ⟨x, by simpa using h, hp⟩
      rw [show i + 1 + k = i + (k + 1) by omega] at this
      rw [if_neg (by simp), Bool.false_or]; exact this
end

/-! ### First errors -/
@[simp] theorem i1_len (x : Int) : (i1 x).length = 1 := rfl
/-- The first that is not zero. -/
def fnz : List Int → Int
  | [] => 0
  | x :: r => if x = 0 then fnz r else x
theorem First_ok (fu n : Nat) (xs : List Int) (hfu : 1000000 ≤ fu) (hl : xs.length ≤ 400000) :
    ev fu (n + 1) 62 [.list (xs.map i1)] [] = some ([.int .i64 (fnz xs)], []) := by
  have h := err_loop xs (fun k i (_ : Unit) => base_First_L1 fu n k (xs.map i1) (xs.length : Nat) i) (fun _ _ x => x) (fun _ s _ => s) (fun _ => some ([.int .i64 0], []))
    (fun k s => by rw [base_First_L1_eq, cnd_decide, if_neg (by omega)])
    (fun k i s hi => by
      rw [base_First_L1_eq, cnd_decide, if_pos (by omega), rdm hi, gd_pos (i1_len _)]
      simp only [i1, cel_zero, dI_int, cnd_not, cnd_decide]
      rw [i64s (by omega)]; rfl) xs.length 0 fu () (by omega) (by omega)
  rw [base_First_eq, List.length_map]
  refine h.trans ?_
  rw [List.drop_zero]
  have e : ∀ (l : List Int) (i : Nat), (errL (σ := Unit) (fun _ _ x => x) (fun _ s _ => s) i () l).1 = fnz l := by
    intro l
    induction l with
    | nil => intro i; rfl
    | cons a r ih =>
      intro i
      unfold errL fnz
      split
      · exact ih (i + 1)
      · rfl
  rw [e xs 0]
  unfold errO
  split
  · rename_i h; rw [h]
  · rfl
theorem When_ok (fu n : Nat) (b : Bool) (e : Int) : ev fu (n + 1) 63 [.bool b, .int .i64 e] [] = some ([.int .i64 (if b then e else 0)], []) := by
  rw [base_When_eq]; cases b <;> exact rfl
def inB (x a b : Int) : Bool := decide (a ≤ x ∧ x ≤ b)
theorem In_ok (fu n : Nat) (x a b : Int) : ev fu (n + 1) 101 [.int .i64 x, .int .i64 a, .int .i64 b] [] = some ([.bool (inB x a b)], []) := by
  rw [base_In_eq, cnd_decide]; unfold inB
  by_cases h : a ≤ x
  · rw [if_pos h]; simp [h]
  · rw [if_neg h]; simp [h]
theorem in_ok (fu n : Nat) (x a b : Int) : ev fu (n + 1) 52 [.int .i64 x, .int .i64 a, .int .i64 b] [] = some ([.bool (inB x a b)], []) := by
  rw [chaseref2_in_eq, cnd_decide]; unfold inB
  by_cases h : a ≤ x
  · rw [if_pos h]; simp [h]
  · rw [if_neg h]; simp [h]

/-! ### Keys -/
theorem small_ok (fu n : Nat) (x : Int) : ev fu (n + 1) 102 [.int .u8 x] [] = some ([.bool (inB x 97 122)], []) := by
  rw [base_small_eq, cnd_decide]; unfold inB
  by_cases h : 97 ≤ x
  · rw [if_pos h]; simp [h]
  · rw [if_neg h]; simp [h]
theorem Digit_ok (fu n : Nat) (x : Int) : ev fu (n + 1) 103 [.int .u8 x] [] = some ([.bool (inB x 48 57)], []) := by
  rw [base_Digit_eq, cnd_decide]; unfold inB
  by_cases h : 48 ≤ x
  · rw [if_pos h]; simp [h]
  · rw [if_neg h]; simp [h]
def keyC (x : Int) : Bool := inB x 97 122 || (inB x 48 57 || (decide (x = 45) || decide (x = 95)))
def keyFrom (s : ByteArray) (i : Nat) : Nat → Bool
  | 0 => true
  | m + 1 => keyC (bAt s i) && keyFrom s (i + 1) m
def keyS (s : ByteArray) : Bool := inB s.size 1 40 && (inB (bAt s 0) 97 122 && keyFrom s 0 s.size)
theorem Key_L1 (fu n : Nat) (s : ByteArray) (hs : s.size ≤ 400000) : ∀ (m i k1 : Nat), i + m = s.size → m < k1 →
    base_Key_L1 fu (n + 1) k1 s (s.size : Nat) i = some ([.bool (keyFrom s i m)], [])
  | m, i, 0, hi, hk => by omega
  | 0, i, k1 + 1, hi, hk => by rw [base_Key_L1_eq, cnd_decide, if_neg (by omega)]; rfl
  | m + 1, i, k1 + 1, hi, hk => by
    rw [base_Key_L1_eq, cnd_decide, if_pos (by omega), ixS_pos (by omega) (by omega), small_ok, rB_some, Digit_ok, rB_some, Int.toNat_natCast]
    simp only [cnd_not]
    rw [i64s (by omega), Key_L1 fu n s hs m (i + 1) k1 (by omega) (by omega), keyFrom]
    unfold keyC
    cases inB (bAt s i) 97 122 <;> cases inB (bAt s i) 48 57 <;> cases decide (bAt s i = 45) <;> cases decide (bAt s i = 95) <;> rfl
theorem Key_ok (fu n : Nat) (s : ByteArray) (hfu : 1000000 ≤ fu) :
    ev fu (n + 2) 55 [.str s] [] = some ([.bool (keyS s)], []) := by
  rw [base_Key_eq, In_ok, rB_some, cnd_not]
  unfold keyS
  by_cases h : inB (s.size : Int) 1 40 = true
  · have hb : 1 ≤ (s.size : Int) ∧ (s.size : Int) ≤ 40 := by simp [inB] at h; omega
    have hl := Key_L1 fu n s (by omega) s.size 0 fu (by omega) (by omega)
    rw [h, cnd_true, ixS_pos (by omega) (by show 0 < s.size; omega), small_ok, rB_some, cnd_not]
    cases hx : inB (bAt s 0) 97 122
    · have hx2 : inB (bAt s (0 : Int).toNat) 97 122 = false := hx
      rw [hx2, cnd_false]; exact rfl
    · have hx2 : inB (bAt s (0 : Int).toNat) 97 122 = true := hx
      rw [hx2, cnd_true]
      exact hl
  · rw [Bool.eq_false_iff.2 h, cnd_false]; exact rfl

/-! #### As the reference tells them -/
theorem dw_nil {β : Type} (p : β → Bool) : ∀ l : List β, l.dropWhile p = [] ↔ ∀ x ∈ l, p x = true
  | [] => by simp
  | a :: r => by
    rw [List.dropWhile_cons]
    by_cases h : p a = true
    · rw [if_pos h, dw_nil p r]
      exact ⟨fun q x hx => (List.mem_cons.1 hx).elim (fun e => e ▸ h) (q x), fun q x hx => q x (List.mem_cons_of_mem _ hx)⟩
    · rw [if_neg h]
      exact ⟨fun q => (by cases q), fun q => absurd (q a (List.mem_cons_self ..)) h⟩
theorem dw_head {β : Type} (p : β → Bool) : ∀ (l : List β) (a : β) (r : List β), l.dropWhile p = a :: r → p a = false
  | [], a, r, h => by cases h
  | b :: l, a, r, h => by
    rw [List.dropWhile_cons] at h
    by_cases hb : p b = true
    · rw [if_pos hb] at h; exact dw_head p l a r h
    · rw [if_neg hb] at h; cases h; exact Bool.eq_false_iff.2 hb
theorem trim_nil (l cs : List UInt8) : Go.Lib.trimS l cs = [] ↔ ∀ b ∈ l, cs.contains b = true := by
  unfold Go.Lib.trimS Go.Lib.trimLeftS Go.Lib.trimRightS
  rw [dw_nil]
  constructor
  · intro h
    have h2 : ∀ x ∈ l.reverse.dropWhile (cs.contains ·), cs.contains x = true := fun x hx => h x (List.mem_reverse.2 hx)
    have h3 : l.reverse.dropWhile (cs.contains ·) = [] := by
      cases hd : l.reverse.dropWhile (cs.contains ·) with
      | nil => rfl
      | cons a r =>
        have hn := dw_head _ _ _ _ hd
        rw [hd] at h2
        rw [h2 a (List.mem_cons_self ..)] at hn; cases hn
    rw [dw_nil] at h3
    intro b hb; exact h3 b (List.mem_reverse.2 hb)
  · intro h x hx
    have h3 : l.reverse.dropWhile (cs.contains ·) = [] := (dw_nil _ _).2 fun b hb => h b (List.mem_reverse.1 hb)
    rw [h3] at hx; simp at hx
def allIn (s c : ByteArray) : Bool := s.data.toList.all (c.data.toList.contains ·)
theorem Trim_ev (fu n : Nat) (s c : ByteArray) (h : s.size ≤ 9223372036854775807 ∧ c.size < 4294967281 ∧ c.data.toList.all (fun b => decide (b.toNat < 128)) = true) : ev fu (n + 1) 99 [.str s, .str c] [] = some ([.str ⟨(Go.Lib.trimS s.data.toList c.data.toList).toArray⟩], []) := by
  have e : ev fu (n + 1) 99 [.str s, .str c] [] = trimH (evs fu n) [.str s, .str c] [] := rfl
  rw [e]; exact if_pos h
theorem only_ok (fu n : Nat) (s c : ByteArray) (h : s.size ≤ 9223372036854775807 ∧ c.size < 4294967281 ∧ c.data.toList.all (fun b => decide (b.toNat < 128)) = true) : ev fu (n + 2) 75 [.str s, .str c] [] = some ([.bool (allIn s c)], []) := by
  rw [chaseref2_only_eq, Trim_ev fu n s c h, rS_some]
  have e : decide ((⟨(Go.Lib.trimS s.data.toList c.data.toList).toArray⟩ : ByteArray) = ⟨#[]⟩) = allIn s c := by
    have e1 : ((⟨(Go.Lib.trimS s.data.toList c.data.toList).toArray⟩ : ByteArray) = ⟨#[]⟩) ↔ Go.Lib.trimS s.data.toList c.data.toList = [] := by
      constructor
      · intro h; have := congrArg (fun b => b.data.toList) h; simpa using this
      · intro h; rw [h]
    unfold allIn
    by_cases hx : Go.Lib.trimS s.data.toList c.data.toList = []
    · rw [decide_eq_true (e1.2 hx)]
      exact (List.all_eq_true.2 ((trim_nil _ _).1 hx)).symm
    · rw [decide_eq_false (fun q => hx (e1.1 q))]
      symm; rw [Bool.eq_false_iff]; intro q
      exact hx ((trim_nil _ _).2 (List.all_eq_true.1 q))
  rw [e]
def smallsB : ByteArray := ⟨#[97, 98, 99, 100, 101, 102, 103, 104, 105, 106, 107, 108, 109, 110, 111, 112, 113, 114, 115, 116, 117, 118, 119, 120, 121, 122]⟩
def keyCs : ByteArray := ⟨#[97, 98, 99, 100, 101, 102, 103, 104, 105, 106, 107, 108, 109, 110, 111, 112, 113, 114, 115, 116, 117, 118, 119, 120, 121, 122, 48, 49, 50, 51, 52, 53, 54, 55, 56, 57, 45, 95]⟩
theorem small_mem (b : UInt8) : smallsB.data.toList.contains b = inB (b.toNat : Int) 97 122 := by
  have h : ∀ n : Fin 256, smallsB.data.toList.contains (UInt8.ofNat n.val) = inB (n.val : Int) 97 122 := by decide +kernel
  have h2 := h ⟨b.toNat, b.toNat_lt⟩
  simpa using h2
theorem key_mem (b : UInt8) : keyCs.data.toList.contains b = keyC (b.toNat : Int) := by
  have h : ∀ n : Fin 256, keyCs.data.toList.contains (UInt8.ofNat n.val) = keyC (n.val : Int) := by decide +kernel
  have h2 := h ⟨b.toNat, b.toNat_lt⟩
  simpa using h2
theorem bAt_el (s : ByteArray) {i : Nat} (h : i < s.data.toList.length) : bAt s i = ((s.data.toList[i]).toNat : Int) := by
  unfold bAt
  have h2 : i < s.data.size := by simpa using h
  rw [Array.getD_eq_getD_getElem?, Array.getElem?_eq_getElem h2]; simp
theorem keyFrom_all (s : ByteArray) : ∀ (m i : Nat), i + m = s.data.toList.length → keyFrom s i m = (s.data.toList.drop i).all (keyCs.data.toList.contains ·)
  | 0, i, h => by rw [List.drop_of_length_le (by omega)]; rfl
  | m + 1, i, h => by
    rw [List.drop_eq_getElem_cons (by omega), List.all_cons, keyFrom, keyFrom_all s m (i + 1) (by omega), key_mem, bAt_el s (by omega)]
theorem keyS_eq (s : ByteArray) : keyS s = (inB (s.size : Int) 1 40 && (inB (bAt s 0) 97 122 && allIn s keyCs)) := by
  unfold keyS allIn
  have hs : s.size = s.data.toList.length := by simp
  rw [hs, keyFrom_all s s.data.toList.length 0 (by omega), List.drop_zero]
theorem RKey_ok (fu n : Nat) (s : ByteArray) : ev fu (n + 3) 26 [.str s] [] = some ([.bool (keyS s)], []) := by
  rw [chaseref2_Key_eq, in_ok, rB_some, keyS_eq]
  by_cases h : inB (s.size : Int) 1 40 = true
  · have hb : 1 ≤ (s.size : Int) ∧ (s.size : Int) ≤ 40 := by simp [inB] at h; omega
    have hl : 0 < s.data.toList.length := by simp; omega
    have ha : allIn (s.extract 0 1) smallsB = inB (bAt s 0) 97 122 := by
      unfold allIn
      have e : (s.extract 0 1).data.toList = [s.data.toList[0]] := by
        have e1 : (s.extract 0 1).data.toList = (s.data.toList.drop 0).take 1 := by
          simp [ByteArray.extract, ByteArray.copySlice]
        rw [e1, List.drop_eq_getElem_cons hl]; rfl
      rw [e, List.all_cons, List.all_nil, Bool.and_true, small_mem, bAt_el s hl]
    have hz : (s.extract 0 1).size ≤ 9223372036854775807 := by rw [ByteArray.size_extract]; omega
    have o1 := only_ok fu n (s.extract 0 1) smallsB ⟨hz, by decide, by decide⟩
    have o2 := only_ok fu n s keyCs ⟨by omega, by decide, by decide⟩
    rw [ha] at o1
    unfold smallsB at o1
    unfold keyCs at o2
    have e0 : ((0 : Nat) : Int).toNat = 0 := rfl
    have e1 : (1 : Int).toNat = 1 := rfl
    rw [h, cnd_true, slS_pos (by omega), e0, e1, o1, rB_some]
    cases hx : inB (bAt s 0) 97 122
    · rw [cnd_false]; rfl
    · rw [cnd_true, o2, rB_some]; rfl
  · rw [Bool.eq_false_iff.2 h, cnd_false]; rfl

/-! ### Rows of strings -/
def sS (s : ByteArray) : List MV := [.str s]
@[simp] theorem npL_sS (s : ByteArray) : npL (sS s) = true := rfl
@[simp] theorem sS_len (s : ByteArray) : (sS s).length = 1 := rfl
def strs (l : List ByteArray) : List (List MV) := l.map sS
@[simp] theorem strs_len (l : List ByteArray) : (strs l).length = l.length := by simp [strs]
def sIx (s : ByteArray) (l : List ByteArray) : Int := fIx (fun x => decide (s = x)) 0 l
/-! ### What streams pick -/
theorem some10_ok (fu n : Nat) (ls : List Int) (at_ : Int) (es : List (List MV)) (xs : List ByteArray) (he : es = strs xs) (h0 : 0 ≤ at_) (h1 : at_ < 4611686018427387904) (hx : 1 ≤ xs.length) (hx2 : xs.length < 1000000) :
    ∃ v, v ∈ xs ∧ ev fu (n + 3) 46 [.ptr 0 0, .list es] (sb ls at_) = some ([.str v], sb ls (at_ + 1)) := by
  subst he
  obtain ⟨v, hv, h⟩ := Next_ok fu n ls at_ xs.length h0 h1
  have hv2 := hv (by omega) (by omega)
  have hi : v.toNat < xs.length := by omega
  refine ⟨xs[v.toNat], List.getElem_mem hi, ?_⟩
  have he : (strs xs)[v.toNat]? = some [.str xs[v.toNat]] := map_get sS hi
  unfold sb at *
  rw [chasemake_Stream_some10_eq]
  simp only [strs_len]
  rw [h]
  simp only [skI_some, skB_some, skS_some, callE_some', unXN_nil, unC_cons, dI_int, unN_nil, unX_cons, dBx_box, dL_list, unXN_nil, rd_get hv2.1 he, List.length_cons, List.length_nil, cel_zero, dS_str]
  rw [gd_pos (by simp)]
end Go.Pv
/- Chapter 6: layouts and values; the checks of both sides. -/
namespace Go.Pv
open Go Go.Proofs

/-! ### More of errors and searches -/
theorem cnd_err (x : Int) (o : Out) : cnd (!decide (x = 0)) (some ([.int .i64 x], [])) o = errO x o := by
  rw [cnd_not, cnd_decide]; unfold errO
  split <;> rfl
theorem cnd_errc (b : Bool) (c : Int) (hc : c ≠ 0) (o : Out) : cnd b (some ([.int .i64 c], [])) o = errO (if b then c else 0) o := by
  cases b
  · rfl
  · unfold errO; rw [if_pos rfl, if_neg hc]; rfl
theorem errO_errO (a b : Int) (o : Out) : errO a (errO b o) = errO (fnz [a, b]) o := by
  unfold errO fnz fnz fnz
  by_cases ha : a = 0
  · simp only [if_pos ha]
    by_cases hb : b = 0
    · simp only [if_pos hb, if_true]
    · simp only [if_neg hb]
  · simp only [if_neg ha]
theorem errO_fin (a : Int) : errO a (some ([.int .i64 0], [])) = some ([.int .i64 a], []) := by
  unfold errO; split
  · rename_i h; rw [h]
  · rfl
theorem fnz_app : ∀ (l m : List Int), fnz (l ++ m) = if fnz l = 0 then fnz m else fnz l
  | [], m => by simp [fnz]
  | a :: r, m => by
    simp only [List.cons_append, fnz]
    by_cases h : a = 0
    · simp only [if_pos h]; exact fnz_app r m
    · simp only [if_neg h]
theorem fnz_a (l m : List Int) : fnz (fnz l :: m) = fnz (l ++ m) := by
  rw [fnz_app]; rfl
theorem fnz_b (a : Int) (m : List Int) : fnz [a, fnz m] = fnz (a :: m) := by
  simp only [fnz]
  by_cases h : a = 0
  · simp only [if_pos h]
    by_cases h2 : fnz m = 0
    · simp only [if_pos h2]; exact h2.symm
    · simp only [if_neg h2]
  · simp only [if_neg h]
theorem fnz_c (l m : List Int) : fnz [fnz l, fnz m] = fnz (l ++ m) := by
  rw [fnz_app]; simp only [fnz]
  by_cases h : fnz l = 0
  · simp only [if_pos h]
    by_cases h2 : fnz m = 0
    · simp only [if_pos h2]; exact h2.symm
    · simp only [if_neg h2]
  · simp only [if_neg h]
theorem find_loop {α : Type} (xs : List α) (p : α → Bool) (L : Nat → Int → Out) (h0 : ∀ k, L (k + 1) (xs.length : Nat) = some ([.int .i64 (-1)], []))
    (h1 : ∀ k (i : Nat) (hi : i < xs.length), L (k + 1) i = if p xs[i] then some ([.int .i64 (i : Nat)], []) else L k ((i + 1 : Nat) : Int)) :
    ∀ (m i k : Nat), i + m = xs.length → m < k → L k i = some ([.int .i64 (fIx p i (xs.drop i))], [])
  | m, i, 0, hi, hk => by omega
  | 0, i, k + 1, hi, hk => by
    have : i = xs.length := by omega
    subst this
    rw [h0 k, List.drop_of_length_le (Nat.le_refl _)]; rfl
  | m + 1, i, k + 1, hi, hk => by
    have hlt : i < xs.length := by omega
    rw [h1 k i hlt, List.drop_eq_getElem_cons hlt, fIx]
    split
    · rfl
    · exact find_loop xs p L h0 h1 m (i + 1) k (by omega) (by omega)
theorem fIx_find {α : Type} (p : α → Bool) : ∀ (xs : List α) (i : Nat), (fIx p i xs = -1 ∧ xs.find? p = none) ∨ ∃ (k : Nat) (x : α), fIx p i xs = ((i + k : Nat) : Int) ∧ xs[k]? = some x ∧ xs.find? p = some x
  | [], i => .inl ⟨rfl, rfl⟩
  | x :: r, i => by
    unfold fIx
    rw [List.find?_cons]
    cases h : p x with
    | true => exact .inr ⟨0, x, by simp, rfl, rfl⟩
    | false =>
      rcases fIx_find p r (i + 1) with ⟨h1, h2⟩ | ⟨k, y, h1, h2, h3⟩
      · exact .inl ⟨h1, h2⟩
      · exact .inr ⟨k + 1, y, by rw [if_neg (by simp), h1]; congr 1; omega, by simpa using h2, h3⟩
theorem rdn {α β : Type} {f : β → List MV} {xs : List β} {i : Nat} {x : β} (h : xs[i]? = some x) (K : List MV → Option α) : rd (xs.map f) (i : Int) K = K (f x) := rd_nat (by simp [h]) K
section
variable (fu n : Nat) (hfu : 1000000 ≤ fu)
include hfu
theorem First2_ok (a b : Int) : ev fu (n + 1) 62 [.list [[.int .i64 a], [.int .i64 b]]] [] = some ([.int .i64 (fnz [a, b])], []) := First_ok fu n [a, b] hfu (by simp)
theorem First3_ok (a b c : Int) : ev fu (n + 1) 62 [.list [[.int .i64 a], [.int .i64 b], [.int .i64 c]]] [] = some ([.int .i64 (fnz [a, b, c])], []) := First_ok fu n [a, b, c] hfu (by simp)
theorem First4_ok (a b c d : Int) : ev fu (n + 1) 62 [.list [[.int .i64 a], [.int .i64 b], [.int .i64 c], [.int .i64 d]]] [] = some ([.int .i64 (fnz [a, b, c, d])], []) := First_ok fu n [a, b, c, d] hfu (by simp)
end

/-! ### Layouts -/
structure Ask where
  field : ByteArray
  choices : List ByteArray
  many : Bool
  spread : Int
structure Rule where
  kind : Int
  field : ByteArray
  iff' : ByteArray
  other : ByteArray
  thn : ByteArray
structure Lay where
  asks : List Ask
  rules : List Rule
structure Choice where
  field : ByteArray
  choices : List ByteArray
def askC (a : Ask) : List MV := [.str a.field, .list (strs a.choices), .bool a.many, .int .i64 a.spread]
def ruleC (r : Rule) : List MV := [.int .i64 r.kind, .str r.field, .str r.iff', .str r.other, .str r.thn]
def choC (c : Choice) : List MV := [.str c.field, .list (strs c.choices)]
@[simp] theorem askC_len (a : Ask) : (askC a).length = 4 := rfl
@[simp] theorem ruleC_len (a : Rule) : (ruleC a).length = 5 := rfl
@[simp] theorem choC_len (a : Choice) : (choC a).length = 2 := rfl
/-- Rows are not too long for the loops' clocks. -/
structure LayOk (L : Lay) : Prop where
  asks : L.asks.length ≤ 200000
  rules : L.rules.length ≤ 200000
  choices : ∀ a ∈ L.asks, a.choices.length ≤ 200000
structure ValOk (v : List Choice) : Prop where
  len : v.length ≤ 300000
  choices : ∀ c ∈ v, c.choices.length ≤ 200000

section
variable {α : Type}
theorem rdAsk {xs : List Ask} {i : Nat} (h : i < xs.length) (K : ByteArray → List (List MV) → Bool → Int → Option α) :
    rd (xs.map askC) (i : Int) (fun e => gd (e.length = 4) (gd (0 + 4 ≤ e.length) (unC (List.take 4 (List.drop 0 e)) fun m2 c3 => (dS m2 fun x4 => (unC c3 fun m5 c6 => (dL m5 fun x7 => (unC c6 fun m8 c9 => (dB m8 fun x10 => (unC c9 fun m11 c12 => (dI .i64 m11 fun x13 => (unN c12 (K x4 x7 x10 x13)))))))))))) =
      K xs[i].field (strs xs[i].choices) xs[i].many xs[i].spread := by
  rw [rdm h, gd_pos (askC_len _), gd_pos (by simp)]
  simp [askC]
theorem rdRule {xs : List Rule} {i : Nat} (h : i < xs.length) (K : Int → ByteArray → ByteArray → ByteArray → ByteArray → Option α) :
    rd (xs.map ruleC) (i : Int) (fun e => gd (e.length = 5) (gd (0 + 5 ≤ e.length) (unC (List.take 5 (List.drop 0 e)) fun m2 c3 => (dI .i64 m2 fun x4 => (unC c3 fun m5 c6 => (dS m5 fun x7 => (unC c6 fun m8 c9 => (dS m8 fun x10 => (unC c9 fun m11 c12 => (dS m11 fun x13 => (unC c12 fun m14 c15 => (dS m14 fun x16 => (unN c15 (K x4 x7 x10 x13 x16)))))))))))))) =
      K xs[i].kind xs[i].field xs[i].iff' xs[i].other xs[i].thn := by
  rw [rdm h, gd_pos (ruleC_len _), gd_pos (by simp)]
  simp [ruleC]
theorem rdCho {xs : List Choice} {i : Nat} (h : i < xs.length) (K : ByteArray → List (List MV) → Option α) :
    rd (xs.map choC) (i : Int) (fun e => gd (e.length = 2) (gd (0 + 2 ≤ e.length) (unC (List.take 2 (List.drop 0 e)) fun m2 c3 => (dS m2 fun x4 => (unC c3 fun m5 c6 => (dL m5 fun x7 => (unN c6 (K x4 x7)))))))) = K xs[i].field (strs xs[i].choices) := by
  rw [rdm h, gd_pos (choC_len _), gd_pos (by simp)]
  simp [choC]
end

def isF (f : ByteArray) (a : Ask) : Bool := decide (a.field = f)
def askIx (asks : List Ask) (f : ByteArray) : Int := fIx (isF f) 0 asks
/-- Is a choice offered? -/
def offB (asks : List Ask) (f c : ByteArray) (e : Bool) : Bool := match asks.find? (isF f) with
  | some a => (e && decide (c = ⟨#[]⟩)) || a.choices.any fun x => decide (c = x)
  | none => false
/-! ### The errors of a layout -/
def dupE (l : List ByteArray) (k : Nat) (c : ByteArray) : Int := fnz [if (!keyS c) = true then 5 else 0, if ((l.take k).any fun x => decide (c = x)) = true then 6 else 0]
def choE (l : List ByteArray) : Int := (errL (σ := Unit) (fun k _ c => dupE l k c) (fun _ s _ => s) 0 () l).1
def askE (asks : List Ask) (i : Nat) (a : Ask) : Int :=
  fnz [if (!keyS a.field) = true then 5 else 0, if (asks.take i).any (isF a.field) = true then 6 else 0, if decide (((strs a.choices).length : Int) = 0) = true then 3 else 0, if decide (30 < ((strs a.choices).length : Int)) = true then 2 else 0, choE a.choices, if (!inB a.spread 0 2) = true then 4 else 0]
def ruleE (asks : List Ask) (r : Rule) : Int := fnz [if (!inB r.kind 1 2) = true then 4 else 0, if (!(offB asks r.field r.iff' false && offB asks r.other r.thn true)) = true then 8 else 0, if decide (r.field = r.other) = true then 14 else 0]
def layE (L : Lay) : Int := fnz [if decide (((L.asks.map askC).length : Int) = 0) = true then 3 else 0, if decide (40 < ((L.asks.map askC).length : Int)) = true then 2 else 0, (errL (σ := Unit) (fun i _ a => askE L.asks i a) (fun _ s _ => s) 0 () L.asks).1,
  if decide (60 < ((L.rules.map ruleC).length : Int)) = true then 2 else 0, (errL (σ := Unit) (fun _ _ r => ruleE L.asks r) (fun _ s _ => s) 0 () L.rules).1]

end Go.Pv
/- Chapter 6: layouts, values and broken rules; both sides are one. -/
namespace Go.Pv
open Go Go.Proofs

abbrev layM (L : Lay) : MV := .agg [.list (L.asks.map askC), .list (L.rules.map ruleC)]
/-! ### Values -/
def valsM (v : List Choice) : MV := .list (v.map choC)
/-- The errors of the choices of one field. -/
def inE (cs : List ByteArray) (b : Int) (c : ByteArray) : Int := fnz [if decide (sIx c cs < 0) = true then 8 else 0, if decide (sIx c cs ≤ b) = true then 7 else 0]
def insE (cs l : List ByteArray) : Int := (errL (fun _ b c => inE cs b c) (fun _ _ c => sIx c cs) 0 (-1) l).1
def askAtL (asks : List Ask) (f : ByteArray) : List ByteArray := match asks.find? (isF f) with
  | some a => a.choices
  | none => []
def manyL (asks : List Ask) (f : ByteArray) : Bool := match asks.find? (isF f) with
  | some a => a.many
  | none => false
def choiceE (asks : List Ask) (last : Int) (c : Choice) : Int :=
  fnz [if decide (askIx asks c.field < 0) = true then 8 else 0, if decide (askIx asks c.field ≤ last) = true then 7 else 0, if decide (((strs c.choices).length : Int) = 0) = true then 3 else 0,
    if (decide (1 < ((strs c.choices).length : Int)) && !manyL asks c.field) = true then 16 else 0, insE (askAtL asks c.field) c.choices]
def valE (asks : List Ask) (v : List Choice) : Int := fnz [if decide (40 < ((v.map choC).length : Int)) = true then 2 else 0, (errL (fun _ last c => choiceE asks last c) (fun _ _ c => askIx asks c.field) 0 (-1) v).1]
theorem cnd_lt (x : Int) (a b : Out) : cnd (decide (x < 0)) a b = if 0 ≤ x then b else a := by
  rw [cnd_decide]
  by_cases h : x < 0
  · rw [if_pos h, if_neg (by omega)]
  · rw [if_neg h, if_pos (by omega)]

/-- The error of values with their layout. -/
def valsE (L : Lay) (v : List Choice) : Int := fnz [layE L, valE L.asks v]
end Go.Pv
/- Chapter 6: broken rules, both sides; what streams make. -/
namespace Go.Pv
open Go Go.Proofs

/-! ### Broken rules -/
def isC (f : ByteArray) (c : Choice) : Bool := decide (c.field = f)
def valL (v : List Choice) (f : ByteArray) : List ByteArray := match v.find? (isC f) with
  | some c => c.choices
  | none => []
theorem valL_len {v : List Choice} (hv : ValOk v) (f : ByteArray) : (valL v f).length ≤ 200000 := by
  unfold valL
  split
  · rename_i c h; exact hv.choices c (List.mem_of_find?_eq_some h)
  · simp
/-- Do values break a rule? -/
def brk (v : List Choice) (r : Rule) : Bool := ((valL v r.field).any fun x => decide (r.iff' = x)) && ((decide (0 < ((strs (valL v r.other)).length : Int)) && (decide (r.thn = ⟨#[]⟩) || (valL v r.other).any fun x => decide (r.thn = x))) == decide (r.kind = 2))
def brkL (v : List Choice) : Nat → List Rule → List Int
  | _, [] => []
  | i, r :: q => if brk v r then (i : Int) :: brkL v (i + 1) q else brkL v (i + 1) q
theorem brkL_len (v : List Choice) : ∀ (l : List Rule) (i : Nat), (brkL v i l).length ≤ l.length
  | [], i => Nat.le_refl _
  | r :: q, i => by
    unfold brkL
    have := brkL_len v q (i + 1)
    split
    · simp; omega
    · simp; omega
theorem brk_run (v : List Choice) (xs : List Rule) (hx : xs.length ≤ 200000) (L : Nat → List (List MV) → Int → Out)
    (h0 : ∀ k out, L (k + 1) out (xs.length : Nat) = some ([.ref 0], [some (.row false 1 out [])]))
    (h1 : ∀ k (i : Nat) (out : List Int) (hi : i < xs.length), out.length ≤ i → L (k + 1) (out.map i1) i = L k ((if brk v xs[i] then out ++ [(i : Int)] else out).map i1) ((i + 1 : Nat) : Int)) :
    ∀ (m i k : Nat) (out : List Int), i + m = xs.length → m < k → out.length ≤ i → L k (out.map i1) i = some ([.ref 0], [some (.row false 1 ((out ++ brkL v i (xs.drop i)).map i1) [])])
  | m, i, 0, out, hi, hk, ho => by omega
  | 0, i, k + 1, out, hi, hk, ho => by
    have : i = xs.length := by omega
    subst this
    rw [h0, List.drop_of_length_le (Nat.le_refl _), brkL, List.append_nil]
  | m + 1, i, k + 1, out, hi, hk, ho => by
    have hlt : i < xs.length := by omega
    have hlen : (if brk v xs[i] then out ++ [(i : Int)] else out).length ≤ i + 1 := by
      split
      · simp; omega
      · omega
    rw [h1 k i out hlt ho, brk_run v xs hx L h0 h1 m (i + 1) k _ (by omega) (by omega) hlen, List.drop_eq_getElem_cons hlt, brkL]
    split
    · rw [List.append_assoc]; rfl
    · rfl
/-! ### What streams make -/
theorem odd10_ok (fu n : Nat) (ls : List Int) (at_ lo hi : Int) (h0 : 0 ≤ at_) (h1 : at_ < 4000000000000000000) (hl : lo ≤ hi) (hb0 : -1000000000000 ≤ lo) (hb1 : hi ≤ 1000000000000) :
    ∃ v a, 0 ≤ a ∧ a ≤ at_ + 2 ∧ ev fu (n + 4) 48 [.ptr 0 0, .int .i64 lo, .int .i64 hi] (sb ls at_) = some ([.int .i64 v], sb ls a) := by
  obtain ⟨b, g1⟩ := Flip_ok fu n ls at_ 12 h0 (by omega)
  rw [chasemake_Stream_odd10_eq, g1, skB_some]
  cases b
  · obtain ⟨v, hv, g2⟩ := Range_ok fu n ls (at_ + 1) lo hi (by omega) (by omega) hl hb0 hb1
    rw [cnd_false, g2, skI_some]
    exact ⟨v, _, by omega, by omega, rfl⟩
  · obtain ⟨v, hv, g2⟩ := Pick_okL fu n ls (at_ + 1) [[.int .i64 (IntKind.i64.wrap (lo - 1))], [.int .i64 (IntKind.i64.wrap (hi + 1))], [.int .i64 lo], [.int .i64 hi], [.int .i64 (-1099511627776)], [.int .i64 1099511627776]] [IntKind.i64.wrap (lo - 1), IntKind.i64.wrap (hi + 1), lo, hi, -1099511627776, 1099511627776] rfl (by omega) (by omega) (by simp) (by simp)
    rw [cnd_true, g2, skI_some]
    exact ⟨v, _, by omega, by omega, rfl⟩
end Go.Pv
/- Chapter 6: layouts and values that streams make. -/
namespace Go.Pv
open Go Go.Proofs

theorem eqO_box (r : Res) (cs : List MV) : eqO (some (r, [some (.box cs)])) (some (r, [some (.box cs)])) = some (r, [some (.box cs)]) := by
  simp [eqO, mvBL_self, bxB, obB]
theorem ixG_n {α : Type} {n i : Nat} (h : i < n) (o : Option α) : ixG n (i : Int) o = o := ixG_pos (by omega) (by simpa using h) o
/-- Texts of streams are short. -/
def szS (s : ByteArray) : Prop := s.size ≤ 10
theorem sz_mem {x : ByteArray} {xs : List ByteArray} (h : x ∈ xs) (hb : xs.all (fun c => Nat.ble c.size 10) = true) : szS x := by
  have := List.all_eq_true.1 hb x h
  exact Nat.le_of_ble_eq_true this
structure RuleS (r : Rule) : Prop where
  field : szS r.field
  iff' : szS r.iff'
  other : szS r.other
  thn : szS r.thn
structure AskS (a : Ask) : Prop where
  field : szS a.field
  len : a.choices.length ≤ 3
  choices : ∀ c ∈ a.choices, szS c
/-- A layout of streams is small. -/
structure LayS (L : Lay) : Prop where
  alen : L.asks.length ≤ 3
  rlen : L.rules.length ≤ 3
  asks : ∀ a ∈ L.asks, AskS a
  rules : ∀ r ∈ L.rules, RuleS r
theorem LayS.ok {L : Lay} (h : LayS L) : LayOk L := ⟨by have := h.alen; omega, by have := h.rlen; omega, fun a ha => by have := (h.asks a ha).len; omega⟩
/-- A right rule. -/
structure RuleR (r : Rule) : Prop where
  s : RuleS r
  kind : r.kind = 1 ∨ r.kind = 2
/-- What a right layout has. -/
structure LayR (L : Lay) : Prop where
  asks : 2 ≤ L.asks.length ∧ L.asks.length ≤ 3
  rules : L.rules.length ≤ 2
  s : ∀ a ∈ L.asks, AskS a
  spread : ∀ a ∈ L.asks, 0 ≤ a.spread ∧ a.spread ≤ 2
  kind : ∀ r ∈ L.rules, RuleR r
theorem LayR.sm {L : Lay} (h : LayR L) : LayS L := ⟨by have := h.asks; omega, by have := h.rules; omega, h.s, fun r hr => (h.kind r hr).s⟩
theorem LayR.ok {L : Lay} (h : LayR L) : LayOk L := h.sm.ok
theorem LayR.choices {L : Lay} (h : LayR L) : ∀ a ∈ L.asks, a.choices.length ≤ 3 := fun a ha => (h.s a ha).len
theorem ovr_askF (a : Ask) (x : ByteArray) : ovr (askC a) 0 [.str x] = askC { a with field := x } := rfl
theorem ovr_askC (a : Ask) (x : List ByteArray) : ovr (askC a) 1 [.list (strs x)] = askC { a with choices := x } := rfl
theorem ovr_askS (a : Ask) (x : Int) : ovr (askC a) 3 [.int .i64 x] = askC { a with spread := x } := rfl
end Go.Pv
/- What all laws of chapter 6 end with; contracts of laws. -/
namespace Go.Pv
open Go Go.Proofs

def ints (xs : List Int) : MV := .list (xs.map fun x => [.int .i64 x])
theorem law_spec {g : FuncId} {fu n : Nat} {ls : List Int} (h : ev fu n g [.list (ls.map i1)] [] = some ([.bool true], [])) : SpecB Tryz.prog g [ints ls] [] [.bool true] [] :=
  ev_sound fu n g [ints ls] [] _ _ h
end Go.Pv
/- Chapter 6: values that streams make; the law ValueChecks. -/
namespace Go.Pv
open Go Go.Proofs

end Go.Pv
/- Copies of rows, and rows that are the same. -/
namespace Go.Pv
open Go Go.Proofs

/-- A loop that copies a row. -/
theorem copy_loop {α : Type} (f : α → List MV) (xs : List α) (sz : Nat) (hx : xs.length ≤ 400000) (L : Nat → List (List MV) → Int → Out)
    (h0 : ∀ k out, L (k + 1) out (xs.length : Nat) = some ([.ref 0], [some (.row false sz out [])]))
    (h1 : ∀ k (i : Nat) (out : List (List MV)) (hi : i < xs.length), out.length ≤ i → L (k + 1) out i = L k (out ++ [f xs[i]]) ((i + 1 : Nat) : Int)) :
    ∀ (m i k : Nat) (out : List (List MV)), i + m = xs.length → m < k → out.length ≤ i → L k out i = some ([.ref 0], [some (.row false sz (out ++ (xs.drop i).map f) [])])
  | m, i, 0, out, hi, hk, ho => by omega
  | 0, i, k + 1, out, hi, hk, ho => by
    have : i = xs.length := by omega
    subst this
    rw [h0, List.drop_length, List.map_nil, List.append_nil]
  | m + 1, i, k + 1, out, hi, hk, ho => by
    have hlt : i < xs.length := by omega
    rw [h1 k i out hlt ho, copy_loop f xs sz hx L h0 h1 m (i + 1) k _ (by omega) (by omega) (by simp; omega), List.drop_eq_getElem_cons hlt, List.map_cons, List.append_assoc]; rfl
theorem true_loop {α : Type} (xs : List α) (L : Nat → Int → Out)
    (h0 : ∀ k, L (k + 1) (xs.length : Nat) = some ([.bool true], []))
    (h1 : ∀ k (i : Nat) (hi : i < xs.length), L (k + 1) i = L k ((i + 1 : Nat) : Int)) : ∀ (m i k : Nat), i + m = xs.length → m < k → L k i = some ([.bool true], [])
  | m, i, 0, hi, hk => by omega
  | 0, i, k + 1, hi, hk => by
    have : i = xs.length := by omega
    subst this
    exact h0 k
  | m + 1, i, k + 1, hi, hk => by
    rw [h1 k i (by omega)]
    exact true_loop xs L h0 h1 m (i + 1) k (by omega) (by omega)
end Go.Pv
/- Chapter 1: items; the reference's checks of them. -/
namespace Go.Pv
open Go Go.Proofs

structure Item where
  id : ByteArray
  cust : ByteArray
  kind : Int
  name : ByteArray
  at_ : Int
  parent : ByteArray
  text : ByteArray
def itemC (x : Item) : List MV := [.str x.id, .str x.cust, .int .i64 x.kind, .str x.name, .int .i64 x.at_, .str x.parent, .str x.text]
@[simp] theorem itemC_len (x : Item) : (itemC x).length = 7 := rfl
section
variable {α : Type}
theorem rdItem {xs : List Item} {i : Nat} (h : i < xs.length) (K : ByteArray → ByteArray → Int → ByteArray → Int → ByteArray → ByteArray → Option α) :
    rd (xs.map itemC) (i : Int) (fun e => gd (e.length = 7) (gd (0 + 7 ≤ e.length) (unC (List.take 7 (List.drop 0 e)) fun m2 c3 => (dS m2 fun x4 => (unC c3 fun m5 c6 => (dS m5 fun x7 => (unC c6 fun m8 c9 => (dI .i64 m8 fun x10 => (unC c9 fun m11 c12 => (dS m11 fun x13 => (unC c12 fun m14 c15 => (dI .i64 m14 fun x16 => (unC c15 fun m17 c18 => (dS m17 fun x19 => (unC c18 fun m20 c21 => (dS m20 fun x22 => (unN c21 (K x4 x7 x10 x13 x16 x19 x22)))))))))))))))))) =
      K xs[i].id xs[i].cust xs[i].kind xs[i].name xs[i].at_ xs[i].parent xs[i].text := by
  rw [rdm h, gd_pos (itemC_len _), gd_pos (by simp)]
  simp [itemC]
theorem rdPar {xs : List Item} {i : Nat} {x : Item} (h : xs[i]? = some x) (K : ByteArray → Option α) : rd (xs.map itemC) (i : Int) (fun e => gd (e.length = 7) (cel e 5 fun m => dS m K)) = K x.parent := by
  rw [rdn h, gd_pos (itemC_len _)]; rfl
theorem rdKnd {xs : List Item} {i : Nat} {x : Item} (h : xs[i]? = some x) (K : Int → Option α) : rd (xs.map itemC) (i : Int) (fun e => gd (e.length = 7) (cel e 2 fun m => dI .i64 m K)) = K x.kind := by
  rw [rdn h, gd_pos (itemC_len _)]
  show dI .i64 (.int .i64 x.kind) K = _
  rw [dI_int]
end
/-! ### First errors, step by step -/
theorem out_fnz (a : Int) (r : List Int) : (some ([.int .i64 (fnz (a :: r))], []) : Out) = errO a (some ([.int .i64 (fnz r)], [])) := by
  unfold errO; rw [fnz]; split <;> rfl
theorem errO_congr {a : Int} {o o' : Out} (h : a = 0 → o = o') : errO a o = errO a o' := by
  unfold errO; split
  · exact h ‹_›
  · rfl
/-! ### Strings -/
def visC (feeds : Bool) (x : Int) : Bool := !((decide (x < 32) && !(feeds && decide (x = 10))) || decide (x = 127))
def visFrom (feeds : Bool) (s : ByteArray) (i : Nat) : Nat → Bool
  | 0 => true
  | m + 1 => visC feeds (bAt s i) && visFrom feeds s (i + 1) m
def validB (s : ByteArray) : Bool := Go.Lib.validD s.data.toList
def trimB (s : ByteArray) : ByteArray := ⟨(Go.Lib.trimS s.data.toList [32]).toArray⟩
def twoB (s : ByteArray) : Bool := decide (0 ≤ Go.Lib.index s.data.toList [32, 32])
def plainS (s : ByteArray) : Bool := visFrom false s 0 s.size && (validB s && (decide (trimB s = s) && !twoB s))
def textS (s : ByteArray) : Bool := visFrom true s 0 s.size && (validB s && (decide (s = ⟨#[]⟩) || decide (bAt s (s.size - 1) = 10)))
theorem Valid_ev (fu n : Nat) (s : ByteArray) (h : s.size ≤ 9223372036854775807) : ev fu (n + 1) 98 [.str s] [] = some ([.bool (validB s)], []) := by
  have e : ev fu (n + 1) 98 [.str s] [] = validH (evs fu n) [.str s] [] := rfl
  rw [e]; exact if_pos h
theorem Repeat_ev (fu n : Nat) (s : ByteArray) (c : Nat) (h : c ≤ 9223372036854775807 ∧ s.size * c ≤ 140737488355328) : ev fu (n + 1) 50 [.str s, .int .i64 c] [] = some ([.str ⟨(Go.Lib.repeatL s.data.toList c).toArray⟩], []) := by
  have e : ev fu (n + 1) 50 [.str s, .int .i64 c] [] = repeatH (evs fu n) [.str s, .int .i64 c] [] := rfl
  rw [e]; exact if_pos ⟨by omega, by omega, by simpa using h.2⟩
theorem Idx_ev (fu n : Nat) (s c : ByteArray) (h : s.size < 4294967281) : ev fu (n + 1) 166 [.str s, .str c] [] = some ([.int .i64 (Go.Lib.index s.data.toList c.data.toList)], []) := by
  have h1 : ev fu (n + 1) 166 [.str s, .str c] [] = indexH (evs fu n) [.str s, .str c] [] := rfl
  rw [h1]; exact if_pos h
theorem Contains_ev (fu n : Nat) (s c : ByteArray) (h : s.size < 4294967281) : ev fu (n + 3) 100 [.str s, .str c] [] = some ([.bool (decide (0 ≤ Go.Lib.index s.data.toList c.data.toList))], []) := by
  rw [strings_Contains_eq, strings_Index_eq, Idx_ev fu n s c h, rI_some, rI_some]
theorem Plain_L1 (fu n : Nat) (s : ByteArray) (hs : s.size ≤ 400000) : ∀ (m i k1 : Nat), i + m = s.size → m < k1 →
    chaseref2_Plain_L1 fu (n + 3) k1 s (s.size : Nat) (i : Nat) = some ([.bool (visFrom false s i m && (validB s && (decide (trimB s = s) && !twoB s)))], [])
  | m, i, 0, hi, hk => by omega
  | 0, i, k1 + 1, hi, hk => by
    have ht : ev fu (n + 3) 99 [.str s, .str ⟨#[32]⟩] [] = some ([.str (trimB s)], []) := Trim_ev fu (n + 2) s ⟨#[32]⟩ ⟨by omega, by decide, by decide⟩
    have hc : ev fu (n + 3) 100 [.str s, .str ⟨#[32, 32]⟩] [] = some ([.bool (twoB s)], []) := Contains_ev fu n s ⟨#[32, 32]⟩ (by omega)
    rw [chaseref2_Plain_L1_eq, cnd_decide, if_neg (by omega), Valid_ev fu (n + 2) s (by omega), rB_some, ht, rS_some, hc, rB_some]
    unfold visFrom
    rw [Bool.true_and]
    cases validB s <;> cases decide (trimB s = s) <;> rfl
  | m + 1, i, k1 + 1, hi, hk => by
    rw [chaseref2_Plain_L1_eq, cnd_decide, if_pos (by omega), ixS_pos (by omega) (by omega), ixS_pos (by omega) (by omega), Int.toNat_natCast, i64s (by omega), Plain_L1 fu n s hs m (i + 1) k1 (by omega) (by omega), visFrom]
    unfold visC
    cases decide (bAt s i < 32) <;> cases decide (bAt s i = 127) <;> rfl
theorem Plain_ok (fu n : Nat) (s : ByteArray) (hs : s.size ≤ 400000) (hfu : 1000000 ≤ fu) : ev fu (n + 4) 53 [.str s] [] = some ([.bool (plainS s)], []) := by
  rw [chaseref2_Plain_eq]
  exact Plain_L1 fu n s hs s.size 0 fu (by omega) (by omega)
theorem IsText_L1 (fu n : Nat) (s : ByteArray) (hs : s.size ≤ 400000) : ∀ (m i k1 : Nat), i + m = s.size → m < k1 →
    chaseref2_IsText_L1 fu (n + 1) k1 s (s.size : Nat) (i : Nat) = some ([.bool (visFrom true s i m && (validB s && (decide (s = ⟨#[]⟩) || decide (bAt s (s.size - 1) = 10))))], [])
  | m, i, 0, hi, hk => by omega
  | 0, i, k1 + 1, hi, hk => by
    rw [chaseref2_IsText_L1_eq, cnd_decide, if_neg (by omega), Valid_ev fu n s (by omega), rB_some]
    unfold visFrom
    rw [Bool.true_and]
    cases validB s with
    | false => rfl
    | true =>
      rw [cnd_true, Bool.true_and]
      by_cases h0 : s = ⟨#[]⟩
      · rw [decide_eq_true h0]; rfl
      · have hp : 1 ≤ s.size := by
          rcases Nat.eq_zero_or_pos s.size with h | h
          · exfalso; apply h0
            apply ByteArray.ext
            exact Array.eq_empty_of_size_eq_zero h
          · exact h
        have hw : IntKind.i64.wrap ((s.size : Int) - 1) = ((s.size - 1 : Nat) : Int) := by rw [w64 (by omega) (by omega)]; omega
        rw [decide_eq_false h0, cnd_false, hw, ixS_pos (by omega) (by omega), Int.toNat_natCast, Bool.false_or]
  | m + 1, i, k1 + 1, hi, hk => by
    rw [chaseref2_IsText_L1_eq, cnd_decide, if_pos (by omega), ixS_pos (by omega) (by omega), ixS_pos (by omega) (by omega), ixS_pos (by omega) (by omega), Int.toNat_natCast, i64s (by omega), IsText_L1 fu n s hs m (i + 1) k1 (by omega) (by omega), visFrom]
    unfold visC
    cases decide (bAt s i < 32) <;> cases decide (bAt s i = 127) <;> cases decide (bAt s i = 10) <;> rfl
theorem IsText_ok (fu n : Nat) (s : ByteArray) (hs : s.size ≤ 400000) (hfu : 1000000 ≤ fu) : ev fu (n + 2) 54 [.str s] [] = some ([.bool (textS s)], []) := by
  rw [chaseref2_IsText_eq]
  exact IsText_L1 fu n s hs s.size 0 fu (by omega) (by omega)
/-! ### One item -/
def itE (x : Item) : Int :=
  fnz [if (!keyS x.id) = true then 5 else 0, if (!keyS x.cust) = true then 5 else 0, if (!inB x.kind 1 4) = true then 4 else 0, if decide ((120 : Int) < (x.name.size : Int)) = true then 2 else 0, if (!plainS x.name) = true then 3 else 0,
    if (!inB x.at_ 0 5761439) = true then 1 else 0, if (!decide (x.parent = ⟨#[]⟩) && !keyS x.parent) = true then 5 else 0, if decide (x.parent = x.id) = true then 14 else 0, if decide ((20000 : Int) < (x.text.size : Int)) = true then 2 else 0, if (!textS x.text) = true then 3 else 0]
theorem ItemFault_ok (fu n : Nat) (x : Item) (hfu : 1000000 ≤ fu) : ev fu (n + 5) 12 [.agg (itemC x)] [] = some ([.int .i64 (itE x)], []) := by
  unfold itE itemC
  rw [chaseref2_ItemFault_eq, RKey_ok fu (n + 1), rB_some, cnd_errc _ _ (by decide), out_fnz]
  refine errO_congr fun _ => ?_
  rw [RKey_ok fu (n + 1), rB_some, cnd_errc _ _ (by decide), out_fnz]
  refine errO_congr fun _ => ?_
  rw [in_ok, rB_some, cnd_errc _ _ (by decide), out_fnz]
  refine errO_congr fun _ => ?_
  rw [cnd_errc _ _ (by decide), out_fnz]
  refine errO_congr fun h => ?_
  have hn : x.name.size ≤ 120 := by
    by_cases h1 : (120 : Int) < (x.name.size : Int)
    · rw [decide_eq_true h1] at h; exact absurd h (by decide)
    · omega
  rw [Plain_ok fu n x.name (by omega) hfu, rB_some, cnd_errc _ _ (by decide), out_fnz]
  refine errO_congr fun _ => ?_
  rw [in_ok, rB_some, cnd_errc _ _ (by decide), out_fnz]
  refine errO_congr fun _ => ?_
  have rest : (cnd (decide (x.parent = x.id)) (some ([.int .i64 (14 : Int)], [])) (cnd (decide ((20000 : Int) < (x.text.size : Int))) (some ([.int .i64 (2 : Int)], [])) (rB (ev fu (n + 4) 54 [.str x.text] []) fun x7 => (cnd (!x7) (some ([.int .i64 (3 : Int)], [])) (some ([.int .i64 (0 : Int)], []))))) : Out) = some ([.int .i64 (fnz [if decide (x.parent = x.id) = true then 14 else 0, if decide ((20000 : Int) < (x.text.size : Int)) = true then 2 else 0, if (!textS x.text) = true then 3 else 0])], []) := by
    rw [cnd_errc _ _ (by decide), out_fnz]
    refine errO_congr fun _ => ?_
    rw [cnd_errc _ _ (by decide), out_fnz]
    refine errO_congr fun h => ?_
    have hn : x.text.size ≤ 20000 := by
      by_cases h1 : (20000 : Int) < (x.text.size : Int)
      · rw [decide_eq_true h1] at h; exact absurd h (by decide)
      · omega
    rw [IsText_ok fu (n + 2) x.text (by omega) hfu, rB_some, cnd_errc _ _ (by decide), out_fnz]; rfl
  rw [RKey_ok fu (n + 1), rB_some, rest, out_fnz (if (!decide (x.parent = ⟨#[]⟩) && !keyS x.parent) = true then 5 else 0)]
  cases decide (x.parent = (⟨#[]⟩ : ByteArray)) with
  | true => rw [Bool.not_true, cnd_false, Bool.false_and]; rfl
  | false => rw [Bool.not_false, cnd_true, Bool.true_and, cnd_errc _ _ (by decide)]
/-! ### Places -/
def plc (l : List Item) (id : ByteArray) : Int := fIx (fun x => decide (x.id = id)) 0 l
theorem IndexFuncI_ok (fu n : Nat) (g : FuncId) (c : List MV) (p : Item → Bool) (hc : npL c = true) (hf : ∀ a, ev fu n g ([.agg (itemC a)] ++ c) [] = some ([.bool (p a)], [])) (l : List Item) (hl : l.length ≤ 400000) (hfu : 1000000 ≤ fu) :
    ev fu (n + 1) 106 [.list (l.map itemC), .fn g c] [] = some ([.int .i64 (fIx p 0 l)], []) := by
  have h := find_loop l p (fun k i => slices_IndexFunc_Sapi_Item_api_Item_L1 fu n k (l.map itemC) g c (l.length : Nat) i)
    (fun k => by rw [slices_IndexFunc_Sapi_Item_api_Item_L1_eq, cnd_decide, if_neg (by omega)])
    (fun k i hi => by
      have h1 := hf l[i]
      have h2 : npL ([.agg (itemC l[i])] ++ c) = true := by rw [npL_append, hc]; rfl
      unfold itemC at h1 h2
      rw [slices_IndexFunc_Sapi_Item_api_Item_L1_eq, cnd_decide, if_pos (by omega), rdItem hi, npG_pos h2, h1, rB_some, i64s (by omega)]
      cases p l[i] <;> rfl) l.length 0 fu (by omega) (by omega)
  rw [slices_IndexFunc_Sapi_Item_api_Item_eq, List.length_map]
  exact h
theorem place_ok (fu n : Nat) (l : List Item) (id : ByteArray) (hl : l.length ≤ 400000) (hfu : 1000000 ≤ fu) : ev fu (n + 3) 67 [.list (l.map itemC), .str id] [] = some ([.int .i64 (plc l id)], []) := by
  rw [chaseref2_place_eq, IndexFuncI_ok fu (n + 1) 107 _ (fun x => decide (x.id = id)) rfl (fun a => by
    show ev fu (n + 1) 107 [.agg (itemC a), .cptr [.str id] 0] [] = _
    unfold itemC
    rw [chaseref2_place_1_eq]; rfl) l hl hfu, rI_some]; rfl
theorem plc_range (l : List Item) (id : ByteArray) : plc l id = -1 ∨ ∃ (k : Nat) (y : Item), plc l id = k ∧ l[k]? = some y ∧ y.id = id := by
  rcases fIx_find (fun x : Item => decide (x.id = id)) l 0 with ⟨h, _⟩ | ⟨k, x, h1, h2, h3⟩
  · exact .inl h
  · refine .inr ⟨k, x, by unfold plc; rw [h1]; simp, h2, ?_⟩
    have := List.find?_some h3
    simpa using this
/-! ### What is above -/
def abvF (l : List Item) (on : Bool) : Nat → List Int → Int → List Int × Bool
  | 0, out, _ => (out, true)
  | m + 1, out, k => if (decide (0 ≤ k) && on) = true then (if l.length < (out ++ [k]).length then (out ++ [k], false) else match l[k.toNat]? with
    | some y => if y.parent = ⟨#[]⟩ then (out ++ [k], true) else abvF l on m (out ++ [k]) (plc l y.parent)
    | none => (out ++ [k], true)) else (out, true)
def abv (l : List Item) (i : Nat) : List Int × Bool := match l[i]? with
  | some x => abvF l (!decide (x.parent = ⟨#[]⟩)) (l.length + 1) [] (plc l x.parent)
  | none => ([], true)
theorem abvF_len (l : List Item) (on : Bool) : ∀ (m : Nat) (out : List Int) (k : Int), (abvF l on m out k).1.length ≤ out.length + m
  | 0, out, k => by simp [abvF]
  | m + 1, out, k => by
    rw [abvF]
    split
    · split
      · simp
      · split
        · split
          · simp
          · have := abvF_len l on m (out ++ [k]) (plc l ‹Item›.parent)
            simp at this; omega
        · simp
    · simp
theorem abv_len (l : List Item) (i : Nat) : (abv l i).1.length ≤ l.length + 1 := by
  unfold abv
  split
  · have := abvF_len l (!decide (‹Item›.parent = ⟨#[]⟩)) (l.length + 1) [] (plc l ‹Item›.parent)
    simpa using this
  · simp
theorem above_L1 (fu n : Nat) (l : List Item) (hl : l.length ≤ 200000) (hfu : 1000000 ≤ fu) (i : Nat) (x : Item) (hx : l[i]? = some x) : ∀ (m k1 : Nat) (out : List Int) (k : Int), out.length + (m + 1) = l.length + 1 → m < k1 → (k = -1 ∨ ∃ (j : Nat) (y : Item), k = j ∧ l[j]? = some y) →
    chaseref2_above_L1 fu (n + 3) (k1 + 1) (l.map itemC) (i : Nat) (out.map i1) k = some ([.list ((abvF l (!decide (x.parent = ⟨#[]⟩)) (m + 1) out k).1.map i1), .bool (abvF l (!decide (x.parent = ⟨#[]⟩)) (m + 1) out k).2], []) := by
  intro m
  induction m with
  | zero =>
    intro k1 out k ho hk hr
    obtain ⟨k1, rfl⟩ : ∃ q, k1 = q + 1 := ⟨k1 - 1, by omega⟩
    rw [chaseref2_above_L1_eq, rdPar hx, abvF]
    rcases hr with rfl | ⟨j, y, rfl, hy⟩
    · rw [cnd_decide, if_neg (by decide), chaseref2_above_J1_eq, cnd_false]; rfl
    · rw [cnd_decide, if_pos (by omega), chaseref2_above_J1_eq, decide_eq_true (show (0 : Int) ≤ (j : Int) by omega), Bool.true_and]
      have e : out.map i1 ++ [[.int .i64 (j : Int)]] = (out ++ [(j : Int)]).map i1 := by rw [List.map_append]; rfl
      cases !decide (x.parent = (⟨#[]⟩ : ByteArray)) with
      | false => rfl
      | true =>
        rw [cnd_true, gL_pos (by simp; omega), e, cnd_decide, if_pos (by simp; omega), if_pos rfl, if_pos (by simp; omega)]
  | succ m ih =>
    intro k1 out k ho hk hr
    obtain ⟨k1, rfl⟩ : ∃ q, k1 = q + 1 := ⟨k1 - 1, by omega⟩
    rw [chaseref2_above_L1_eq, rdPar hx, abvF]
    rcases hr with rfl | ⟨j, y, rfl, hy⟩
    · rw [cnd_decide, if_neg (by decide), chaseref2_above_J1_eq, cnd_false]; rfl
    · rw [cnd_decide, if_pos (by omega), chaseref2_above_J1_eq, decide_eq_true (show (0 : Int) ≤ (j : Int) by omega), Bool.true_and]
      have e : out.map i1 ++ [[.int .i64 (j : Int)]] = (out ++ [(j : Int)]).map i1 := by rw [List.map_append]; rfl
      have ih' := ih k1 (out ++ [(j : Int)]) (plc l y.parent) (by simp; omega) (by omega) (by
        rcases plc_range l y.parent with h | ⟨q, z, h1, h2, _⟩
        · exact .inl h
        · exact .inr ⟨q, z, h1, h2⟩)
      cases hp : !decide (x.parent = (⟨#[]⟩ : ByteArray)) with
      | false => rfl
      | true =>
        rw [hp] at ih'
        rw [cnd_true, gL_pos (by simp; omega), e, cnd_decide, if_neg (by simp; omega), if_pos rfl, if_neg (by simp; omega), rdPar hy, rdPar hy, place_ok fu n l y.parent (by omega) hfu, rI_some, cnd_decide, Int.toNat_natCast, hy]
        simp only
        by_cases hq : y.parent = ⟨#[]⟩
        · rw [if_pos hq, if_pos hq]
        · rw [if_neg hq, if_neg hq]; exact ih'
theorem above_ok (fu n : Nat) (l : List Item) (hl : l.length ≤ 200000) (hfu : 1000000 ≤ fu) (i : Nat) (hi : i < l.length) : ev fu (n + 4) 82 [.list (l.map itemC), .int .i64 (i : Nat)] [] = some ([.list ((abv l i).1.map i1), .bool (abv l i).2], []) := by
  have hx : l[i]? = some l[i] := List.getElem?_eq_getElem hi
  obtain ⟨k1, rfl⟩ : ∃ q, fu = q + 1 := ⟨fu - 1, by omega⟩
  have h := above_L1 (k1 + 1) n l hl hfu i l[i] hx l.length k1 [] (plc l l[i].parent) (by simp) (by omega) (by
    rcases plc_range l l[i].parent with h | ⟨q, z, h1, h2, _⟩
    · exact .inl h
    · exact .inr ⟨q, z, h1, h2⟩)
  rw [chaseref2_above_eq, rdPar hx, place_ok (k1 + 1) n l _ (by omega) hfu, rI_some]
  unfold abv
  rw [hx]
  exact h
end Go.Pv
/- Chapter 1: items together; the reference's checks of them. -/
namespace Go.Pv
open Go Go.Proofs

def iIx (x : Int) (l : List Int) : Int := fIx (fun y => decide (x = y)) 0 l
theorem IndexI_ok (fu n : Nat) (l : List Int) (x : Int) (hl : l.length ≤ 400000) (hfu : 1000000 ≤ fu) : ev fu (n + 1) 167 [.list (l.map i1), .int .i64 x] [] = some ([.int .i64 (iIx x l)], []) := by
  have h := find_loop l (fun y => decide (x = y)) (fun k i => slices_Index_Sint_int_L1 fu n k (l.map i1) x (l.length : Nat) i)
    (fun k => by rw [slices_Index_Sint_int_L1_eq, cnd_decide, if_neg (by omega)])
    (fun k i hi => by
      rw [slices_Index_Sint_int_L1_eq, cnd_decide, if_pos (by omega), rdm hi, gd_pos (i1_len _)]
      simp only [i1, cel_zero, dI_int]
      rw [i64s (by omega)]
      cases decide (x = l[i]) <;> rfl) l.length 0 fu (by omega) (by omega)
  rw [slices_Index_Sint_int_eq, List.length_map]
  exact h
theorem ContainsI_ok (fu n : Nat) (l : List Int) (x : Int) (hl : l.length ≤ 400000) (hfu : 1000000 ≤ fu) : ev fu (n + 2) 136 [.list (l.map i1), .int .i64 x] [] = some ([.bool (l.any fun y => decide (x = y))], []) := by
  rw [slices_Contains_Sint_int_eq, IndexI_ok fu n l x hl hfu, rI_some]
  unfold iIx
  rw [fIx_any]
def retB (l : List Item) (i : Nat) : Bool := (abv l i).1.any fun y => decide ((i : Int) = y)
theorem returns_ok (fu n : Nat) (l : List Item) (hl : l.length ≤ 200000) (hfu : 1000000 ≤ fu) (i : Nat) (hi : i < l.length) : ev fu (n + 5) 108 [.list (l.map itemC), .int .i64 (i : Nat)] [] = some ([.bool (retB l i)], []) := by
  have := abv_len l i
  rw [chaseref2_returns_eq, above_ok fu n l hl hfu i hi]
  simp only [callE_some', unXN_nil, unC_cons, dL_list, dB_bool, unN_nil]
  rw [ContainsI_ok fu (n + 2) _ _ (by omega) hfu, rB_some]; rfl
/-- A parent of a wrong kind. -/
def parK (l : List Item) (x : Item) : Int := match l[(plc l x.parent).toNat]? with
  | some y => if (!decide (x.parent = ⟨#[]⟩) && (decide (0 ≤ plc l x.parent) && (!decide (y.kind = 1) && !decide (y.kind = 3)))) = true then 16 else 0
  | none => 0
def treeE (l : List Item) : Int := fnz [(errL (σ := Unit) (fun i _ _ => if retB l i = true then 14 else 0) (fun _ s _ => s) 0 () l).1, (errL (σ := Unit) (fun i _ x => fnz [parK l x, if decide ((4 : Int) < ((abv l i).1.length : Int)) = true then 2 else 0]) (fun _ s _ => s) 0 () l).1]
theorem treeFault_L2 (fu n : Nat) (l : List Item) (hl : l.length ≤ 200000) (hfu : 1000000 ≤ fu) : chaseref2_treeFault_L2 fu (n + 5) fu (l.map itemC) (l.length : Nat) (0 : Int) = some ([.int .i64 (errL (σ := Unit) (fun i _ x => fnz [parK l x, if decide ((4 : Int) < ((abv l i).1.length : Int)) = true then 2 else 0]) (fun _ s _ => s) 0 () l).1], []) := by
  have h := err_loop l (fun k i (_ : Unit) => chaseref2_treeFault_L2 fu (n + 5) k (l.map itemC) (l.length : Nat) i) (fun i _ x => fnz [parK l x, if decide ((4 : Int) < ((abv l i).1.length : Int)) = true then 2 else 0]) (fun _ s _ => s) (fun _ => some ([.int .i64 0], []))
    (fun k s => by rw [chaseref2_treeFault_L2_eq, cnd_decide, if_neg (by omega)])
    (fun k i s hi => by
      have hx : l[i]? = some l[i] := List.getElem?_eq_getElem hi
      have ha := above_ok fu (n + 1) l hl hfu i hi
      rw [chaseref2_treeFault_L2_eq, cnd_decide, if_pos (by omega), rdPar hx, place_ok fu (n + 2) l _ (by omega) hfu, rI_some, rdPar hx, ha, i64s (by omega)]
      simp only [callE_some', unXN_nil, unC_cons, dL_list, dB_bool, unN_nil, List.length_map]
      rw [cnd_errc _ _ (show (2 : Int) ≠ 0 by decide), ← errO_errO]
      generalize errO _ (chaseref2_treeFault_L2 fu (n + 5) k (l.map itemC) (l.length : Nat) ((i + 1 : Nat) : Int)) = o
      unfold parK
      rcases plc_range l l[i].parent with h | ⟨q, y, h1, h2, _⟩
      · rw [h]
        have e : ((match l[(-1 : Int).toNat]? with | some y => if (!decide (l[i].parent = ⟨#[]⟩) && (decide ((0 : Int) ≤ -1) && (!decide (y.kind = 1) && !decide (y.kind = 3)))) = true then 16 else 0 | none => 0) : Int) = 0 := by
          split
          · rw [decide_eq_false (show ¬ (0 : Int) ≤ -1 by decide), Bool.false_and, Bool.and_false]; rfl
          · rfl
        rw [e, errO_0]
        cases decide (l[i].parent = (⟨#[]⟩ : ByteArray)) <;> rfl
      · rw [h1, Int.toNat_natCast, h2, rdKnd h2, rdKnd h2, decide_eq_true (show (0 : Int) ≤ (q : Int) by omega)]
        simp only
        cases decide (l[i].parent = (⟨#[]⟩ : ByteArray)) <;> cases decide (y.kind = 1) <;> cases decide (y.kind = 3) <;> rfl) l.length 0 fu () (by omega) (by omega)
  rw [List.drop_zero, errO_fin] at h
  exact h
theorem treeFault_ok (fu n : Nat) (l : List Item) (hl : l.length ≤ 200000) (hfu : 1000000 ≤ fu) : ev fu (n + 6) 68 [.list (l.map itemC)] [] = some ([.int .i64 (treeE l)], []) := by
  have h := err_loop l (fun k i (_ : Unit) => chaseref2_treeFault_L1 fu (n + 5) k (l.map itemC) (l.length : Nat) i) (fun i _ _ => if retB l i = true then 14 else 0) (fun _ s _ => s) (fun _ => chaseref2_treeFault_L2 fu (n + 5) fu (l.map itemC) (l.length : Nat) (0 : Int))
    (fun k s => by rw [chaseref2_treeFault_L1_eq, cnd_decide, if_neg (by omega), List.length_map])
    (fun k i s hi => by
      rw [chaseref2_treeFault_L1_eq, cnd_decide, if_pos (by omega), returns_ok fu n l hl hfu i hi, rB_some, cnd_errc _ _ (by decide), i64s (by omega)]) l.length 0 fu () (by omega) (by omega)
  rw [List.drop_zero, treeFault_L2 fu n l hl hfu] at h
  rw [chaseref2_treeFault_eq, List.length_map]
  unfold treeE
  rw [out_fnz, out_fnz]
  refine h.trans (errO_congr fun _ => ?_)
  exact (errO_fin _).symm
/-- The errors of items. -/
def itemsL (l : List Item) : Int := (errL (fun _ last x => fnz [itE x, if (sless x.id last || decide (x.id = last)) = true then 7 else 0]) (fun _ _ x => x.id) 0 (⟨#[]⟩ : ByteArray) l).1
def parL (l : List Item) : Int := (errL (σ := Unit) (fun _ _ x => if (!decide (x.parent = ⟨#[]⟩) && decide (plc l x.parent < 0)) = true then 8 else 0) (fun _ s _ => s) 0 () l).1
def itemsE (l : List Item) : Int := fnz [if decide ((2000 : Int) < (l.length : Int)) = true then 2 else 0, itemsL l, parL l, treeE l]
theorem ItemsFault_L2 (fu n : Nat) (l : List Item) (hl : l.length ≤ 200000) (hfu : 1000000 ≤ fu) : chaseref2_ItemsFault_L2 fu (n + 6) fu (l.map itemC) (l.map itemC) (l.length : Nat) (0 : Int) = some ([.int .i64 (fnz [parL l, treeE l])], []) := by
  have h := err_loop l (fun k i (_ : Unit) => chaseref2_ItemsFault_L2 fu (n + 6) k (l.map itemC) (l.map itemC) (l.length : Nat) i) (fun _ _ x => if (!decide (x.parent = ⟨#[]⟩) && decide (plc l x.parent < 0)) = true then 8 else 0) (fun _ s _ => s) (fun _ => some ([.int .i64 (treeE l)], []))
    (fun k s => by rw [chaseref2_ItemsFault_L2_eq, cnd_decide, if_neg (by omega), treeFault_ok fu n l hl hfu, rI_some])
    (fun k i s hi => by
      rw [chaseref2_ItemsFault_L2_eq, cnd_decide, if_pos (by omega), rdItem hi, place_ok fu (n + 3) l _ (by omega) hfu, rI_some, i64s (by omega), cnd_errc _ _ (show (8 : Int) ≠ 0 by decide)]
      cases decide (l[i].parent = (⟨#[]⟩ : ByteArray)) <;> rfl) l.length 0 fu () (by omega) (by omega)
  rw [List.drop_zero] at h
  rw [out_fnz, out_fnz]
  refine h.trans (errO_congr fun _ => ?_)
  exact (errO_fin _).symm
theorem ItemsFault_ok (fu n : Nat) (l : List Item) (hfu : 1000000 ≤ fu) : ev fu (n + 7) 16 [.list (l.map itemC)] [] = some ([.int .i64 (itemsE l)], []) := by
  rw [chaseref2_ItemsFault_eq, List.length_map, cnd_errc _ _ (show (2 : Int) ≠ 0 by decide)]
  unfold itemsE
  rw [out_fnz]
  refine errO_congr fun h0 => ?_
  have hl : l.length ≤ 2000 := by
    by_cases h1 : (2000 : Int) < (l.length : Int)
    · rw [decide_eq_true h1] at h0; exact absurd h0 (by decide)
    · omega
  have h := err_loop l (fun k i (s : ByteArray) => chaseref2_ItemsFault_L1 fu (n + 6) k (l.map itemC) s (l.map itemC) (l.length : Nat) i) (fun _ last x => fnz [itE x, if (sless x.id last || decide (x.id = last)) = true then 7 else 0]) (fun _ _ x => x.id) (fun _ => chaseref2_ItemsFault_L2 fu (n + 6) fu (l.map itemC) (l.map itemC) (l.length : Nat) (0 : Int))
    (fun k s => by rw [chaseref2_ItemsFault_L1_eq, cnd_decide, if_neg (by omega), List.length_map])
    (fun k i s hi => by
      have hx := ItemFault_ok fu (n + 1) l[i] hfu
      unfold itemC at hx
      rw [chaseref2_ItemsFault_L1_eq, cnd_decide, if_pos (by omega), rdItem hi, hx, rI_some, cnd_err, cnd_errc _ _ (show (7 : Int) ≠ 0 by decide), errO_errO, i64s (by omega)]) l.length 0 fu ⟨#[]⟩ (by omega) (by omega)
  rw [List.drop_zero, ItemsFault_L2 fu n l (by omega) hfu] at h
  refine h.trans ?_
  rw [out_fnz (itemsL l)]; rfl
end Go.Pv
/- Chapter 1: items that streams make. -/
namespace Go.Pv
open Go Go.Proofs

theorem enc4 (i : Int) : (Utf8.encode i).size ≤ 4 := by
  unfold Utf8.encode
  simp only
  repeat' split
  all_goals simp [ByteArray.size]
/-- Items of streams are not long. -/
structure ItS (x : Item) : Prop where
  id : x.id.size ≤ 10
  cust : x.cust.size ≤ 10
  name : x.name.size ≤ 200
  parent : x.parent.size ≤ 10
  text : x.text.size ≤ 30000
theorem itemId_ok (fu n : Nat) (i : Int) : ∃ s : ByteArray, s.size ≤ 10 ∧ ev fu (n + 1) 47 [.int .i64 i] [] = some ([.str s], []) := by
  rw [chasemake_itemId_eq]
  have h1 := enc4 (IntKind.i32.wrap (IntKind.i64.wrap ((97 : Int) + (Int.tmod (IntKind.i64.wrap (Int.tdiv i (26 : Int))) (26 : Int)))))
  have h2 := enc4 (IntKind.i32.wrap (IntKind.i64.wrap ((97 : Int) + (Int.tmod i (26 : Int)))))
  generalize Utf8.encode (IntKind.i32.wrap (IntKind.i64.wrap ((97 : Int) + (Int.tmod (IntKind.i64.wrap (Int.tdiv i (26 : Int))) (26 : Int))))) = u at *
  generalize Utf8.encode (IntKind.i32.wrap (IntKind.i64.wrap ((97 : Int) + (Int.tmod i (26 : Int))))) = v at *
  have h0 : (⟨#[105]⟩ : ByteArray).size = 1 := rfl
  have h3 : ((⟨#[105]⟩ : ByteArray) ++ u).size = 1 + u.size := by rw [ByteArray.size_append, h0]
  refine ⟨((⟨#[105]⟩ : ByteArray) ++ u) ++ v, by rw [ByteArray.size_append]; omega, ?_⟩
  rw [gd_pos (by decide), gd_pos (by decide), stG_pos (by omega), gd_pos (by decide), stG_pos (by omega)]
def words10 : List ByteArray := [⟨#[100, 101, 97, 108]⟩, ⟨#[68, 101, 97, 108]⟩, ⟨#[115, 105, 103, 110]⟩, ⟨#[115, 105, 103, 110, 101, 100]⟩, ⟨#[116, 104, 101]⟩, ⟨#[102, 114, 105, 100, 97, 121]⟩, ⟨#[99, 111, 110, 116, 114, 97, 99, 116]⟩, ⟨#[120, 49]⟩, ⟨#[99, 97, 102, 195, 169]⟩, ⟨#[97, 110, 100]⟩]
theorem ItemText_L2 (fu n k1 : Nat) (ls : List Int) (N : Nat) (hN : N ≤ 6) (v7 v8 : Int) : ∀ (m i k : Nat) (s : ByteArray) (at_ : Int), i + m = N → m < k → 0 ≤ at_ → at_ + 2 * m < 4000000000000000000 → s.size + 20 * m ≤ 100000 →
    ∃ s' a, s'.size ≤ s.size + 20 * m + 1 ∧ at_ ≤ a ∧ a ≤ at_ + 2 * m ∧ chasemake_Stream_ItemText_L2 fu (n + 3) k1 k s v7 v8 (N : Nat) (i : Nat) (ls.map i1) at_ = chasemake_Stream_ItemText_L1 fu (n + 3) k1 s' v7 (IntKind.i64.wrap (v8 + 1)) (ls.map i1) a
  | m, i, 0, s, at_, hi, hk, h0, h1, hs => by omega
  | 0, i, k + 1, s, at_, hi, hk, h0, h1, hs => by
    refine ⟨s ++ ⟨#[10]⟩, at_, by rw [ByteArray.size_append]; show _ + 1 ≤ _; omega, by omega, by omega, ?_⟩
    rw [chasemake_Stream_ItemText_L2_eq, cnd_decide, if_neg (by omega), stG_pos (by show _ + 1 ≤ _; omega)]
  | m + 1, i, k + 1, s, at_, hi, hk, h0, h1, hs => by
    rw [chasemake_Stream_ItemText_L2_eq, cnd_decide, if_pos (by omega), cnd_decide]
    by_cases hp : (0 : Int) < (i : Int)
    · obtain ⟨x, hx, g1⟩ := some10_ok fu n ls at_ [[.str ⟨#[32]⟩], [.str ⟨#[32]⟩], [.str ⟨#[32]⟩], [.str ⟨#[44, 32]⟩], [.str ⟨#[45]⟩]] [⟨#[32]⟩, ⟨#[32]⟩, ⟨#[32]⟩, ⟨#[44, 32]⟩, ⟨#[45]⟩] rfl (by omega) (by omega) (by simp) (by simp)
      obtain ⟨y, hy, g2⟩ := some10_ok fu n ls (at_ + 1) (strs words10) words10 rfl (by omega) (by omega) (by decide) (by decide)
      have zx : x.size ≤ 10 := sz_mem hx rfl
      have zy : y.size ≤ 10 := sz_mem hy rfl
      have g2' : ev fu (n + 3) 46 [.ptr 0 0, .list ([[.str (⟨#[100, 101, 97, 108]⟩ : ByteArray)], [.str (⟨#[68, 101, 97, 108]⟩ : ByteArray)], [.str (⟨#[115, 105, 103, 110]⟩ : ByteArray)], [.str (⟨#[115, 105, 103, 110, 101, 100]⟩ : ByteArray)], [.str (⟨#[116, 104, 101]⟩ : ByteArray)], [.str (⟨#[102, 114, 105, 100, 97, 121]⟩ : ByteArray)], [.str (⟨#[99, 111, 110, 116, 114, 97, 99, 116]⟩ : ByteArray)], [.str (⟨#[120, 49]⟩ : ByteArray)], [.str (⟨#[99, 97, 102, 195, 169]⟩ : ByteArray)], [.str (⟨#[97, 110, 100]⟩ : ByteArray)]] : List (List MV))] (sb ls (at_ + 1)) = some ([.str y], sb ls (at_ + 1 + 1)) := g2
      obtain ⟨s', a, q1, q2, q3, g⟩ := ItemText_L2 fu n k1 ls N hN v7 v8 m (i + 1) k ((s ++ x) ++ y) (at_ + 1 + 1) (by omega) (by omega) (by omega) (by omega) (by rw [ByteArray.size_append, ByteArray.size_append]; omega)
      refine ⟨s', a, by rw [ByteArray.size_append, ByteArray.size_append] at q1; omega, by omega, by omega, ?_⟩
      rw [if_pos hp, g1, skS_some, stG_pos (by omega), g2', skS_some, stG_pos (by rw [ByteArray.size_append]; omega), i64s (by omega)]
      exact g
    · obtain ⟨y, hy, g2⟩ := some10_ok fu n ls at_ (strs words10) words10 rfl (by omega) (by omega) (by decide) (by decide)
      have zy : y.size ≤ 10 := sz_mem hy rfl
      have g2' : ev fu (n + 3) 46 [.ptr 0 0, .list ([[.str (⟨#[100, 101, 97, 108]⟩ : ByteArray)], [.str (⟨#[68, 101, 97, 108]⟩ : ByteArray)], [.str (⟨#[115, 105, 103, 110]⟩ : ByteArray)], [.str (⟨#[115, 105, 103, 110, 101, 100]⟩ : ByteArray)], [.str (⟨#[116, 104, 101]⟩ : ByteArray)], [.str (⟨#[102, 114, 105, 100, 97, 121]⟩ : ByteArray)], [.str (⟨#[99, 111, 110, 116, 114, 97, 99, 116]⟩ : ByteArray)], [.str (⟨#[120, 49]⟩ : ByteArray)], [.str (⟨#[99, 97, 102, 195, 169]⟩ : ByteArray)], [.str (⟨#[97, 110, 100]⟩ : ByteArray)]] : List (List MV))] (sb ls at_) = some ([.str y], sb ls (at_ + 1)) := g2
      obtain ⟨s', a, q1, q2, q3, g⟩ := ItemText_L2 fu n k1 ls N hN v7 v8 m (i + 1) k (s ++ y) (at_ + 1) (by omega) (by omega) (by omega) (by omega) (by rw [ByteArray.size_append]; omega)
      refine ⟨s', a, by rw [ByteArray.size_append] at q1; omega, by omega, by omega, ?_⟩
      rw [if_neg hp, g2', skS_some, stG_pos (by omega), i64s (by omega)]
      exact g
theorem ItemText_L1 (fu n : Nat) (hfu : 1000000 ≤ fu) (ls : List Int) (N : Nat) (hN : N ≤ 3) : ∀ (m i k : Nat) (s : ByteArray) (at_ : Int), i + m = N → m < k → 0 ≤ at_ → at_ + 13 * m < 3000000000000000000 → s.size ≤ 130 * i →
    ∃ s' a, s'.size ≤ 400 ∧ at_ ≤ a ∧ a ≤ at_ + 13 * m ∧ chasemake_Stream_ItemText_L1 fu (n + 3) k s (N : Nat) (i : Nat) (ls.map i1) at_ = some ([.str s'], sb ls a)
  | m, i, 0, s, at_, hi, hk, h0, h1, hs => by omega
  | 0, i, k + 1, s, at_, hi, hk, h0, h1, hs => by
    rw [chasemake_Stream_ItemText_L1_eq, cnd_decide, if_neg (by omega)]
    exact ⟨s, at_, by omega, by omega, by omega, rfl⟩
  | m + 1, i, k + 1, s, at_, hi, hk, h0, h1, hs => by
    obtain ⟨c, hc, g1⟩ := Range_ok fu n ls at_ 0 6 (by omega) (by omega) (by omega) (by omega) (by omega)
    obtain ⟨C, rfl⟩ : ∃ C : Nat, c = C := ⟨c.toNat, by omega⟩
    obtain ⟨s1, a1, q1, q2, q3, g2⟩ := ItemText_L2 fu n k ls C (by omega) (N : Nat) (i : Nat) C 0 fu s (at_ + 1) (by omega) (by omega) (by omega) (by omega) (by omega)
    obtain ⟨s2, a2, r1, r2, r3, g3⟩ := ItemText_L1 fu n hfu ls N hN m (i + 1) k s1 a1 (by omega) (by omega) (by omega) (by omega) (by omega)
    refine ⟨s2, a2, r1, by omega, by omega, ?_⟩
    rw [i64s (by omega)] at g2
    rw [chasemake_Stream_ItemText_L1_eq, cnd_decide, if_pos (by omega), g1, skI_some]
    exact g2.trans g3
theorem ItemText_ok (fu n : Nat) (hfu : 1000000 ≤ fu) (ls : List Int) (at_ : Int) (h0 : 0 ≤ at_) (h1 : at_ < 2000000000000000000) :
    ∃ s a, s.size ≤ 400 ∧ at_ ≤ a ∧ a ≤ at_ + 50 ∧ ev fu (n + 4) 49 [.ptr 0 0] (sb ls at_) = some ([.str s], sb ls a) := by
  obtain ⟨x, hx, g⟩ := Pick_okL fu n ls at_ [[.int .i64 0], [.int .i64 1], [.int .i64 1], [.int .i64 2], [.int .i64 3]] [0, 1, 1, 2, 3] rfl h0 (by omega) (by simp) (by simp)
  have hx' : 0 ≤ x ∧ x ≤ 3 := by simp at hx; omega
  obtain ⟨N, rfl⟩ : ∃ N : Nat, x = N := ⟨x.toNat, by omega⟩
  obtain ⟨s, a, q1, q2, q3, g2⟩ := ItemText_L1 fu n hfu ls N (by omega) N 0 fu ⟨#[]⟩ (at_ + 1) (by omega) (by omega) (by omega) (by omega) (by decide)
  refine ⟨s, a, q1, by omega, by omega, ?_⟩
  rw [chasemake_Stream_ItemText_eq, g, skI_some]
  exact g2
theorem rep_sz (c : Nat) : (⟨(Go.Lib.repeatL (⟨#[97]⟩ : ByteArray).data.toList c).toArray⟩ : ByteArray).size = c := by
  show (Go.Lib.repeatL [97] c).toArray.size = c
  rw [List.size_toArray, Go.Lib.repeatL_length]; simp
theorem sz_cases {x : ByteArray} {xs : List ByteArray} {b : Nat} (h : x ∈ xs) (hb : ∀ y ∈ xs, y.size ≤ b) : x.size ≤ b := hb x h
theorem Item_ok (fu n : Nat) (hfu : 1000000 ≤ fu) (ls : List Int) (at_ : Int) (id : ByteArray) (hid : id.size ≤ 10) (h0 : 0 ≤ at_) (h1 : at_ < 1000000000000000000) :
    ∃ x a, ItS x ∧ 0 ≤ a ∧ a ≤ at_ + 120 ∧ ev fu (n + 5) 10 [.ptr 0 0, .str id] (sb ls at_) = some ([.agg (itemC x)], sb ls a) := by
  have ebe : ByteArray.empty = (⟨#[]⟩ : ByteArray) := by kernel_rfl
  obtain ⟨x5, q5, g5⟩ := some10_ok fu (n + 1) ls at_ [[.str ⟨#[97, 110, 110]⟩], [.str ⟨#[98, 111, 98]⟩], [.str ⟨#[99, 105, 100]⟩]] [⟨#[97, 110, 110]⟩, ⟨#[98, 111, 98]⟩, ⟨#[99, 105, 100]⟩] rfl (by omega) (by omega) (by simp) (by simp)
  obtain ⟨x10, q10, g10⟩ := Pick_okL fu (n + 1) ls (at_ + 1) [[.int .i64 1], [.int .i64 1], [.int .i64 1], [.int .i64 2], [.int .i64 3], [.int .i64 3], [.int .i64 4]] [1, 1, 1, 2, 3, 3, 4] rfl (by omega) (by omega) (by simp) (by simp)
  obtain ⟨x15, q15, g15⟩ := some10_ok fu (n + 1) ls (at_ + 1 + 1) [[.str ⟨#[]⟩], [.str ⟨#[109, 101, 109, 111]⟩], [.str ⟨#[84, 104, 101, 32, 100, 101, 97, 108]⟩], [.str ⟨#[120, 45, 49, 46, 116, 120, 116]⟩]] [⟨#[]⟩, ⟨#[109, 101, 109, 111]⟩, ⟨#[84, 104, 101, 32, 100, 101, 97, 108]⟩, ⟨#[120, 45, 49, 46, 116, 120, 116]⟩] rfl (by omega) (by omega) (by simp) (by simp)
  obtain ⟨x20, q20, g20⟩ := Pick_okL fu (n + 1) ls (at_ + 1 + 1 + 1) [[.int .i64 0], [.int .i64 10], [.int .i64 100], [.int .i64 1439], [.int .i64 1440], [.int .i64 5000], [.int .i64 20000]] [0, 10, 100, 1439, 1440, 5000, 20000] rfl (by omega) (by omega) (by simp) (by simp)
  obtain ⟨x25, a1, q25, b1, c1, g25⟩ := ItemText_ok fu n hfu ls (at_ + 1 + 1 + 1 + 1) (by omega) (by omega)
  obtain ⟨x30, a2, q30, b2, c2, g30⟩ := ItemText_ok fu n hfu ls a1 (by omega) (by omega)
  obtain ⟨x35, q35, g35⟩ := some10_ok fu (n + 1) ls a2 [[.str ⟨#[]⟩], [.str ⟨#[111, 110, 101, 10]⟩], [.str ⟨#[111, 110, 101, 10, 116, 119, 111, 10]⟩], [.str x25], [.str x30]] [⟨#[]⟩, ⟨#[111, 110, 101, 10]⟩, ⟨#[111, 110, 101, 10, 116, 119, 111, 10]⟩, x25, x30] rfl (by omega) (by omega) (by simp) (by simp)
  obtain ⟨x40, g40⟩ := Flip_ok fu (n + 1) ls (a2 + 1) 60 (by omega) (by omega)
  have z5 : x5.size ≤ 10 := sz_mem q5 rfl
  have z15 : x15.size ≤ 200 := Nat.le_trans (sz_mem q15 rfl) (by decide)
  have z35 : x35.size ≤ 30000 := by
    simp only [List.mem_cons, List.not_mem_nil, or_false] at q35
    rcases q35 with rfl | rfl | rfl | rfl | rfl
    · decide
    · decide
    · decide
    · omega
    · omega
  have ze : (⟨#[]⟩ : ByteArray).size ≤ 10 := by decide
  rw [chasemake_Stream_Item_eq, g5, skS_some, g10, skI_some, g15, skS_some, g20, skI_some, g25, skS_some, g30, skS_some, g35, skS_some, g40, skB_some, ebe]
  cases x40
  · rw [cnd_false]
    exact ⟨⟨id, x5, x10, x15, x20, ⟨#[]⟩, x35⟩, _, ⟨hid, z5, z15, ze, z35⟩, by omega, by omega, rfl⟩
  · obtain ⟨x45, q45, g45⟩ := Next_ok fu (n + 2) ls (a2 + 1 + 1) 6 (by omega) (by omega)
    rw [cnd_true, g45, skI_some, cnd_decide]
    by_cases k0 : x45 = 0
    · obtain ⟨x50, q50, g50⟩ := some10_ok fu (n + 1) ls (a2 + 1 + 1 + 1) [[.str ⟨#[]⟩], [.str ⟨#[65]⟩], [.str id]] [⟨#[]⟩, ⟨#[65]⟩, id] rfl (by omega) (by omega) (by simp) (by simp)
      obtain ⟨x55, q55, g55⟩ := some10_ok fu (n + 1) ls (a2 + 1 + 1 + 1 + 1) [[.str ⟨#[]⟩], [.str ⟨#[65, 110, 110]⟩], [.str ⟨#[97, 110, 110]⟩]] [⟨#[]⟩, ⟨#[65, 110, 110]⟩, ⟨#[97, 110, 110]⟩] rfl (by omega) (by omega) (by simp) (by simp)
      have z50 : x50.size ≤ 10 := by
        simp only [List.mem_cons, List.not_mem_nil, or_false] at q50
        rcases q50 with rfl | rfl | rfl
        · decide
        · decide
        · exact hid
      rw [if_pos k0, g50, skS_some, g55, skS_some]
      exact ⟨⟨x50, x55, x10, x15, x20, ⟨#[]⟩, x35⟩, _, ⟨z50, sz_mem q55 rfl, z15, ze, z35⟩, by omega, by omega, rfl⟩
    rw [if_neg k0, cnd_decide]
    by_cases k1 : x45 = 1
    · obtain ⟨v, a, b3, c3, g⟩ := odd10_ok fu n ls (a2 + 1 + 1 + 1) 1 4 (by omega) (by omega) (by omega) (by omega) (by omega)
      rw [if_pos k1, g, skI_some]
      exact ⟨⟨id, x5, v, x15, x20, ⟨#[]⟩, x35⟩, _, ⟨hid, z5, z15, ze, z35⟩, b3, by omega, rfl⟩
    rw [if_neg k1, cnd_decide]
    by_cases k2 : x45 = 2
    · obtain ⟨x65, q65, g65⟩ := Pick_okL fu (n + 1) ls (a2 + 1 + 1 + 1) [[.int .i64 120], [.int .i64 121]] [120, 121] rfl (by omega) (by omega) (by simp) (by simp)
      obtain ⟨c, rfl, hc⟩ : ∃ c : Nat, x65 = c ∧ c ≤ 121 := ⟨x65.toNat, by simp at q65; omega, by simp at q65; omega⟩
      have g66 := Repeat_ev fu (n + 3) ⟨#[97]⟩ c ⟨by omega, by show 1 * c ≤ _; omega⟩
      have zr := rep_sz c
      generalize (⟨(Go.Lib.repeatL (⟨#[97]⟩ : ByteArray).data.toList c).toArray⟩ : ByteArray) = u at *
      obtain ⟨x71, q71, g71⟩ := some10_ok fu (n + 1) ls (a2 + 1 + 1 + 1 + 1) [[.str ⟨#[32, 97]⟩], [.str ⟨#[97, 32, 32, 98]⟩], [.str ⟨#[97, 10]⟩], [.str ⟨#[255]⟩], [.str u]] [⟨#[32, 97]⟩, ⟨#[97, 32, 32, 98]⟩, ⟨#[97, 10]⟩, ⟨#[255]⟩, u] rfl (by omega) (by omega) (by simp) (by simp)
      have z71 : x71.size ≤ 200 := by
        simp only [List.mem_cons, List.not_mem_nil, or_false] at q71
        rcases q71 with rfl | rfl | rfl | rfl | rfl
        · decide
        · decide
        · decide
        · decide
        · omega
      rw [if_pos k2, g65, skI_some, g66, rS_some, g71, skS_some]
      exact ⟨⟨id, x5, x10, x71, x20, ⟨#[]⟩, x35⟩, _, ⟨hid, z5, z71, ze, z35⟩, by omega, by omega, rfl⟩
    rw [if_neg k2, cnd_decide]
    by_cases k3 : x45 = 3
    · obtain ⟨v, a, b3, c3, g⟩ := odd10_ok fu n ls (a2 + 1 + 1 + 1) 0 5761439 (by omega) (by omega) (by omega) (by omega) (by omega)
      rw [if_pos k3, g, skI_some]
      exact ⟨⟨id, x5, x10, x15, v, ⟨#[]⟩, x35⟩, _, ⟨hid, z5, z15, ze, z35⟩, b3, by omega, rfl⟩
    rw [if_neg k3, cnd_decide]
    by_cases k4 : x45 = 4
    · obtain ⟨x81, q81, g81⟩ := some10_ok fu (n + 1) ls (a2 + 1 + 1 + 1) [[.str ⟨#[65]⟩], [.str id], [.str ⟨#[57]⟩]] [⟨#[65]⟩, id, ⟨#[57]⟩] rfl (by omega) (by omega) (by simp) (by simp)
      have z81 : x81.size ≤ 10 := by
        simp only [List.mem_cons, List.not_mem_nil, or_false] at q81
        rcases q81 with rfl | rfl | rfl
        · decide
        · exact hid
        · decide
      rw [if_pos k4, g81, skS_some]
      exact ⟨⟨id, x5, x10, x15, x20, x81, x35⟩, _, ⟨hid, z5, z15, z81, z35⟩, by omega, by omega, rfl⟩
    rw [if_neg k4]
    obtain ⟨x86, q86, g86⟩ := Pick_okL fu (n + 1) ls (a2 + 1 + 1 + 1) [[.int .i64 19999], [.int .i64 20000]] [19999, 20000] rfl (by omega) (by omega) (by simp) (by simp)
    obtain ⟨c, rfl, hc⟩ : ∃ c : Nat, x86 = c ∧ c ≤ 20000 := ⟨x86.toNat, by simp at q86; omega, by simp at q86; omega⟩
    have g87 := Repeat_ev fu (n + 3) ⟨#[97]⟩ c ⟨by omega, by show 1 * c ≤ _; omega⟩
    have zr := rep_sz c
    generalize (⟨(Go.Lib.repeatL (⟨#[97]⟩ : ByteArray).data.toList c).toArray⟩ : ByteArray) = u at *
    have zu : (u ++ (⟨#[10]⟩ : ByteArray)).size ≤ 20001 := by rw [ByteArray.size_append]; show _ + 1 ≤ _; omega
    obtain ⟨x92, q92, g92⟩ := some10_ok fu (n + 1) ls (a2 + 1 + 1 + 1 + 1) [[.str ⟨#[110, 111, 32, 101, 110, 100]⟩], [.str ⟨#[1, 10]⟩], [.str ⟨#[127, 10]⟩], [.str ⟨#[255, 10]⟩], [.str (u ++ (⟨#[10]⟩ : ByteArray))]] [⟨#[110, 111, 32, 101, 110, 100]⟩, ⟨#[1, 10]⟩, ⟨#[127, 10]⟩, ⟨#[255, 10]⟩, u ++ (⟨#[10]⟩ : ByteArray)] rfl (by omega) (by omega) (by simp) (by simp)
    have z92 : x92.size ≤ 30000 := by
      simp only [List.mem_cons, List.not_mem_nil, or_false] at q92
      rcases q92 with rfl | rfl | rfl | rfl | rfl
      · decide
      · decide
      · decide
      · decide
      · omega
    rw [g86, skI_some, g87, rS_some, stG_pos (by show _ + 1 ≤ _; omega), g92, skS_some]
    exact ⟨⟨id, x5, x10, x15, x20, ⟨#[]⟩, x92⟩, _, ⟨hid, z5, z15, ze, z92⟩, by omega, by omega, rfl⟩
/-! ### Right items -/
theorem ovr_par (x : Item) (p : ByteArray) : ovr (itemC x) 5 [.str p] = itemC { x with parent := p } := rfl
theorem RightItems_L2 (fu n : Nat) (hfu : 1000000 ≤ fu) (ls : List Int) (N : Nat) (hN : N ≤ 1000) : ∀ (m i k : Nat) (l : List Item) (at_ : Int), l.length = N → (∀ x ∈ l, ItS x) → i + m = N → m < k → 0 ≤ at_ → at_ + 2 * m < 4000000000000000000 →
    ∃ (l' : List Item) (a : Int), l'.length = N ∧ (∀ x ∈ l', ItS x) ∧ at_ ≤ a ∧ a ≤ at_ + 2 * m ∧ chasemake_Stream_RightItems_L2 fu (n + 7) k (l.map itemC) (N : Nat) (i : Nat) (ls.map i1) at_ = some ([.ref 1], [some (.box [.list (ls.map i1), .int .i64 a]), some (.row false 7 (l'.map itemC) [])])
  | m, i, 0, l, at_, hl, hs, hi, hk, h0, h1 => by omega
  | 0, i, k + 1, l, at_, hl, hs, hi, hk, h0, h1 => by
    rw [chasemake_Stream_RightItems_L2_eq, cnd_decide, if_neg (by omega)]
    exact ⟨l, at_, hl, hs, by omega, by omega, rfl⟩
  | m + 1, i, k + 1, l, at_, hl, hs, hi, hk, h0, h1 => by
    obtain ⟨b, g1⟩ := Flip_ok fu (n + 4) ls at_ 2 (by omega) (by omega)
    rw [chasemake_Stream_RightItems_L2_eq, cnd_decide, if_pos (by omega), g1, skB_some, i64s (by omega)]
    cases b
    · have hil : i < l.length := by omega
      obtain ⟨k0, hk0, g2⟩ := Next_ok fu (n + 5) ls (at_ + 1) ((l.map itemC).length : Nat) (by omega) (by omega)
      have hk0 := hk0 (by simp; omega) (by simp; omega)
      obtain ⟨q, rfl⟩ : ∃ q : Nat, k0 = q := ⟨k0.toNat, by omega⟩
      have hql : q < l.length := by simp at hk0; omega
      have put : ∀ (x : Item) (l : List Item), ItS x → (∀ x ∈ l, ItS x) → ∀ y ∈ l.set i x, ItS y := fun x l hx hl y hy => by
        rcases List.mem_or_eq_of_mem_set hy with h | h
        · exact hl y h
        · subst h; exact hx
      have hx := hs l[i] (List.getElem_mem hil)
      have hq := hs l[q] (List.getElem_mem hql)
      have r1 : ∀ K : List MV → Out, rdN (l.map itemC) i K = K (itemC l[i]) := fun K => rdN_get (by simp [hil]) K
      have r2 : ∀ K : List MV → Out, rdN (l.map itemC) q K = K (itemC l[q]) := fun K => rdN_get (by simp [hql]) K
      have c1 : ∀ (x : Item) (K : MV → Out), cel (itemC x) 5 K = K (.str x.parent) := fun _ _ => rfl
      have c2 : ∀ (x : Item) (K : MV → Out), cel (itemC x) 0 K = K (.str x.id) := fun _ _ => rfl
      rw [cnd_false, g2, skI_some]
      have x1 : ∀ o : Out, ixG (l.map itemC).length (i : Int) o = o := fun o => ixG_n (by simpa using hil) o
      have x2 : ∀ o : Out, ixG (l.map itemC).length (q : Int) o = o := fun o => ixG_n (by simpa using hql) o
      have e1 : (l.map itemC).set i (ovr (itemC l[i]) 5 [.str l[q].id]) = (l.set i { l[i] with parent := l[q].id }).map itemC := by rw [ovr_par, List.map_set]
      have h1' : ItS { l[i] with parent := l[q].id } := ⟨hx.id, hx.cust, hx.name, hq.id, hx.text⟩
      have hs1 := put _ l h1' hs
      have hl1 : (l.set i { l[i] with parent := l[q].id }).length = N := by rw [List.length_set]; exact hl
      simp only [Int.toNat_natCast, x1, x2, r1, r2, c1, c2, dS_str, e1]
      have hil1 : i < (l.set i { l[i] with parent := l[q].id }).length := by omega
      have hget : (l.set i { l[i] with parent := l[q].id })[i] = { l[i] with parent := l[q].id } := by simp
      generalize ey : ({ l[i] with parent := l[q].id } : Item) = y at *
      generalize el : l.set i y = l1 at *
      have x3 : ∀ o : Out, ixG (l1.map itemC).length (i : Int) o = o := fun o => ixG_n (by simpa using hil1) o
      have r3 : ∀ K : List MV → Out, rdN (l1.map itemC) i K = K (itemC y) := fun K => rdN_get (by rw [List.getElem?_map, List.getElem?_eq_getElem hil1, hget]; rfl) K
      have e2 : (l1.map itemC).set i (ovr (itemC y) 5 [.str l[i].parent]) = (l1.set i { y with parent := l[i].parent }).map itemC := by rw [ovr_par, List.map_set]
      simp only [x3, r3, e2, ItemsFault_ok fu n l1 hfu, rI_some, cnd_decide]
      have h2' : ItS { y with parent := l[i].parent } := ⟨h1'.id, h1'.cust, h1'.name, hx.parent, h1'.text⟩
      have hs2 := put _ l1 h2' hs1
      have hl2 : (l1.set i { y with parent := l[i].parent }).length = N := by rw [List.length_set]; exact hl1
      obtain ⟨l', a, p1, p2, p3, p4, g⟩ := RightItems_L2 fu n hfu ls N hN m (i + 1) k l1 (at_ + 1 + 1) hl1 hs1 (by omega) (by omega) (by omega) (by omega)
      obtain ⟨l'', a', p1', p2', p3', p4', g'⟩ := RightItems_L2 fu n hfu ls N hN m (i + 1) k _ (at_ + 1 + 1) hl2 hs2 (by omega) (by omega) (by omega) (by omega)
      split
      · exact ⟨l'', a', p1', p2', by omega, by omega, g'⟩
      · cases !decide (itemsE l1 = 0)
        · exact ⟨l', a, p1, p2, by omega, by omega, g⟩
        · exact ⟨l'', a', p1', p2', by omega, by omega, g'⟩
    · obtain ⟨l', a, p1, p2, p3, p4, g⟩ := RightItems_L2 fu n hfu ls N hN m (i + 1) k l (at_ + 1) hl hs (by omega) (by omega) (by omega) (by omega)
      rw [cnd_true]
      exact ⟨l', a, p1, p2, by omega, by omega, g⟩
theorem RightItems_L1 (fu n : Nat) (hfu : 1000000 ≤ fu) (ls : List Int) (N : Nat) (hN : N ≤ 1000) : ∀ (m i k : Nat) (l : List Item) (at_ : Int), l.length ≤ i → (∀ x ∈ l, ItS x) → i + m = N → m < k → 0 ≤ at_ → at_ + 2 * N + 120 * m < 900000000000000000 →
    ∃ (l' : List Item) (a : Int), l'.length ≤ N ∧ (∀ x ∈ l', ItS x) ∧ 0 ≤ a ∧ a ≤ at_ + 2 * N + 120 * m ∧ chasemake_Stream_RightItems_L1 fu (n + 7) k (l.map itemC) (N : Nat) (i : Nat) (ls.map i1) at_ = some ([.ref 1], [some (.box [.list (ls.map i1), .int .i64 a]), some (.row false 7 (l'.map itemC) [])])
  | m, i, 0, l, at_, hl, hs, hi, hk, h0, h1 => by omega
  | 0, i, k + 1, l, at_, hl, hs, hi, hk, h0, h1 => by
    obtain ⟨l', a, p1, p2, p3, p4, g⟩ := RightItems_L2 fu n hfu ls l.length (by omega) l.length 0 fu l at_ rfl hs (by omega) (by omega) h0 (by omega)
    rw [chasemake_Stream_RightItems_L1_eq, cnd_decide, if_neg (by omega), List.length_map]
    exact ⟨l', a, by omega, p2, by omega, by omega, g⟩
  | m + 1, i, k + 1, l, at_, hl, hs, hi, hk, h0, h1 => by
    obtain ⟨id, hid, g1⟩ := itemId_ok fu (n + 6) (i : Int)
    obtain ⟨x, a1, hx, b1, c1, g2⟩ := Item_ok fu (n + 2) hfu ls at_ id hid h0 (by omega)
    have hf := ItemFault_ok fu (n + 2) x hfu
    obtain ⟨l', a, p1, p2, p3, p4, g⟩ := RightItems_L1 fu n hfu ls N hN m (i + 1) k l a1 (by omega) hs (by omega) (by omega) b1 (by omega)
    obtain ⟨l'', a', p1', p2', p3', p4', g'⟩ := RightItems_L1 fu n hfu ls N hN m (i + 1) k (l ++ [x]) a1 (by simp; omega) (fun y hy => by
      rcases List.mem_append.1 hy with h | h
      · exact hs y h
      · rcases List.mem_singleton.1 h with rfl; exact hx) (by omega) (by omega) b1 (by omega)
    have e : l.map itemC ++ [[.str x.id, .str x.cust, .int .i64 x.kind, .str x.name, .int .i64 x.at_, .str x.parent, .str x.text]] = (l ++ [x]).map itemC := by rw [List.map_append]; rfl
    have ex : itemC x = [.str x.id, .str x.cust, .int .i64 x.kind, .str x.name, .int .i64 x.at_, .str x.parent, .str x.text] := rfl
    rw [ex] at g2 hf
    rw [chasemake_Stream_RightItems_L1_eq, cnd_decide, if_pos (by omega), g1, rS_some, g2]
    simp only [callE_some', unX_cons, dBx_box, unC_cons, dL_list, dI_int, unN_nil, unXN_nil, dA_agg, dS_str, eqM_self', g1, rS_some, hf, rI_some, i64s (show i < 9223372036854775807 by omega), e]
    rw [gL_pos (by simp; omega)]
    cases hid2 : !decide (x.id = id) with
    | true => rw [cnd_true, eqM_self']; exact ⟨l', a, p1, p2, p3, by omega, g⟩
    | false =>
      rw [cnd_false]
      cases !decide (x.parent = (⟨#[]⟩ : ByteArray)) with
      | true => rw [cnd_true, eqM_self']; exact ⟨l', a, p1, p2, p3, by omega, g⟩
      | false =>
        rw [cnd_false]
        cases !decide (itE x = 0) with
        | true => rw [cnd_true, eqM_self']; exact ⟨l', a, p1, p2, p3, by omega, g⟩
        | false => rw [cnd_false, eqM_self']; exact ⟨l'', a', p1', p2', p3', by omega, g'⟩
theorem RightItems_ok (fu n : Nat) (hfu : 1000000 ≤ fu) (ls : List Int) (at_ : Int) (N : Nat) (hN : N ≤ 1000) (h0 : 0 ≤ at_) (h1 : at_ < 800000000000000000) :
    ∃ (l : List Item) (a : Int), l.length ≤ N ∧ (∀ x ∈ l, ItS x) ∧ 0 ≤ a ∧ a ≤ at_ + 122000 ∧ ev fu (n + 8) 44 [.ptr 0 0, .int .i64 (N : Nat)] (sb ls at_) = some ([.ref 1], [some (.box [.list (ls.map i1), .int .i64 a]), some (.row false 7 (l.map itemC) [])]) := by
  obtain ⟨l, a, p1, p2, p3, p4, g⟩ := RightItems_L1 fu n hfu ls N hN N 0 fu [] at_ (by simp) (by simp) (by omega) (by omega) h0 (by omega)
  refine ⟨l, a, p1, p2, p3, by omega, ?_⟩
  rw [chasemake_Stream_RightItems_eq]
  exact g
end Go.Pv
/- Chapter 6: codings; what streams make of them; their errors, both sides. -/
namespace Go.Pv
open Go Go.Proofs

structure Cod where
  item : ByteArray
  vals : List Choice
def codC (c : Cod) : List MV := [.str c.item, valsM c.vals]
@[simp] theorem codC_len (c : Cod) : (codC c).length = 2 := rfl
theorem rdCod {α : Type} {xs : List Cod} {i : Nat} (h : i < xs.length) (K : ByteArray → List (List MV) → Option α) :
    rd (xs.map codC) (i : Int) (fun e => gd (e.length = 2) (gd (0 + 2 ≤ e.length) (unC (List.take 2 (List.drop 0 e)) fun m2 c3 => (dS m2 fun x4 => (unC c3 fun m5 c6 => (dL m5 fun x7 => (unN c6 (K x4 x7)))))))) = K xs[i].item (xs[i].vals.map choC) := by
  rw [rdm h, gd_pos (codC_len _), gd_pos (by simp)]
  simp [codC, valsM]
/-! ### Their errors -/
def codE (asks : List Ask) (last : ByteArray) (c : Cod) : Int := fnz [if (!keyS c.item) = true then 5 else 0, if (sless c.item last || decide (c.item = last)) = true then 7 else 0, valE asks c.vals]
def codsL (asks : List Ask) (C : List Cod) : Int := (errL (fun _ last c => codE asks last c) (fun _ _ c => c.item) 0 (⟨#[]⟩ : ByteArray) C).1
def codsE (asks : List Ask) (C : List Cod) : Int := fnz [if decide ((2000 : Int) < (C.length : Int)) = true then 2 else 0, codsL asks C]
theorem sless_nil (a : ByteArray) : sless a ⟨#[]⟩ = false := by
  have e : (⟨#[]⟩ : ByteArray).toList = [] := by kernel_rfl
  unfold sless
  rw [e]
  cases a.toList <;> rfl
theorem keyS_ne {s : ByteArray} (h : keyS s = true) : s ≠ ⟨#[]⟩ := by
  intro e
  subst e
  exact absurd h (by decide)
def prevE (C : List Cod) (i : Nat) (c : Cod) : Int := if 0 < i then (match C[i - 1]? with
  | some p => if (sless c.item p.item || decide (c.item = p.item)) = true then 7 else 0
  | none => 0) else 0
def lastI (C : List Cod) (i : Nat) : ByteArray := if 0 < i then (match C[i - 1]? with
  | some p => p.item
  | none => ⟨#[]⟩) else ⟨#[]⟩
theorem cods_same (asks : List Ask) (C : List Cod) : ∀ (m i : Nat), i + m = C.length →
    (errL (σ := Unit) (fun i _ c => fnz [if (!keyS c.item) = true then 5 else 0, prevE C i c, valE asks c.vals]) (fun _ s _ => s) i () (C.drop i)).1 = (errL (fun _ last c => codE asks last c) (fun _ _ c => c.item) i (lastI C i) (C.drop i)).1
  | 0, i, hi => by rw [List.drop_of_length_le (by omega)]; rfl
  | m + 1, i, hi => by
    have hlt : i < C.length := by omega
    have ih := cods_same asks C m (i + 1) (by omega)
    rw [List.drop_eq_getElem_cons hlt, errL, errL]
    have e : fnz [if (!keyS C[i].item) = true then 5 else 0, prevE C i C[i], valE asks C[i].vals] = codE asks (lastI C i) C[i] := by
      unfold codE prevE lastI
      by_cases h0 : 0 < i
      · have hg : C[i - 1]? = some C[i - 1] := List.getElem?_eq_getElem (by omega)
        simp only [if_pos h0, hg]
      · simp only [if_neg h0]
        rw [sless_nil, Bool.false_or]
        cases hk : keyS C[i].item with
        | false => rfl
        | true => rw [decide_eq_false (keyS_ne hk)]; rfl
    have el : lastI C (i + 1) = C[i].item := by
      unfold lastI
      rw [if_pos (by omega)]
      have hg : C[i + 1 - 1]? = some C[i] := by rw [Nat.add_sub_cancel]; exact List.getElem?_eq_getElem hlt
      rw [hg]
    rw [e]
    split
    · rw [ih, el]
    · rfl
def givE (L : Lay) (C : List Cod) : Int := fnz [layE L, codsE L.asks C]
end Go.Pv
/- Chapter 6: which codings have a choice, and how many; both sides. -/
namespace Go.Pv
open Go Go.Proofs

/-! ### Having -/
def hasB (f c : ByteArray) (x : Cod) : Bool := (valL x.vals f).any fun y => decide (c = y)
def havL (f c : ByteArray) (C : List Cod) : List ByteArray := (C.filter (hasB f c)).map (·.item)
theorem filter_loop {α : Type} (p : α → Bool) (g : α → ByteArray) (xs : List α) (hx : xs.length ≤ 400000) (L : Nat → List ByteArray → Int → Out) (fin : List ByteArray → Out)
    (h0 : ∀ k out, L (k + 1) out (xs.length : Nat) = fin out)
    (h1 : ∀ k (i : Nat) (out : List ByteArray) (hi : i < xs.length), out.length ≤ i → L (k + 1) out i = L k (if p xs[i] then out ++ [g xs[i]] else out) ((i + 1 : Nat) : Int)) :
    ∀ (m i k : Nat) (out : List ByteArray), i + m = xs.length → m < k → out.length ≤ i → L k out i = fin (out ++ ((xs.drop i).filter p).map g)
  | m, i, 0, out, hi, hk, ho => by omega
  | 0, i, k + 1, out, hi, hk, ho => by
    have : i = xs.length := by omega
    subst this
    rw [h0, List.drop_length]; simp
  | m + 1, i, k + 1, out, hi, hk, ho => by
    have hlt : i < xs.length := by omega
    rw [h1 k i out hlt ho, List.drop_eq_getElem_cons hlt, List.filter_cons]
    by_cases hp : p xs[i] = true
    · rw [if_pos hp, if_pos hp, filter_loop p g xs hx L fin h0 h1 m (i + 1) k _ (by omega) (by omega) (by simp; omega)]
      simp
    · rw [if_neg hp, if_neg hp, filter_loop p g xs hx L fin h0 h1 m (i + 1) k _ (by omega) (by omega) (by omega)]
theorem havL_len (f c : ByteArray) (C : List Cod) : (havL f c C).length ≤ C.length := by
  unfold havL; rw [List.length_map]; exact List.length_filter_le ..
/-! ### Rows of counts -/
def rowG (N : Nat) (g : Nat → Int) : List (List MV) := ((List.range N).map g).map i1
theorem rowG_len (N : Nat) (g : Nat → Int) : (rowG N g).length = N := by simp [rowG]
theorem rowG_get {N : Nat} {g : Nat → Int} {j : Nat} (h : j < N) : (rowG N g)[j]? = some (i1 (g j)) := by
  unfold rowG; simp [h]
theorem rowG_set (N : Nat) (g : Nat → Int) (j : Nat) (x : Int) : (rowG N g).set j (ovr (i1 (g j)) 0 [.int .i64 x]) = rowG N (fun q => if q = j then x else g q) := by
  have e : ovr (i1 (g j)) 0 [.int .i64 x] = i1 x := rfl
  unfold rowG
  rw [e, ← List.map_set]
  congr 1
  apply List.ext_getElem?
  intro q
  rw [List.getElem?_set]
  by_cases hq : j = q
  · subst hq
    by_cases hj : j < N
    · simp [hj]
    · simp [hj]
  · rw [if_neg hq]
    simp only [List.getElem?_map]
    by_cases hqN : q < N
    · simp [hqN, Ne.symm hq]
    · simp [hqN]
theorem rowG_congr {N : Nat} {g g' : Nat → Int} (h : ∀ j, j < N → g j = g' j) : rowG N g = rowG N g' := by
  unfold rowG
  congr 1
  exact List.map_congr_left fun j hj => h j (List.mem_range.1 hj)
end Go.Pv
/- Chapter 6: counts of choices; both sides. -/
namespace Go.Pv
open Go Go.Proofs

/-! ### What the errors say -/
theorem fnz0 : ∀ (l : List Int), fnz l = 0 → ∀ x ∈ l, x = 0
  | [], _, x, hx => by cases hx
  | a :: r, h, x, hx => by
    rw [fnz] at h
    split at h
    · rcases List.mem_cons.1 hx with rfl | hx
      · assumption
      · exact fnz0 r h x hx
    · exact absurd h (by assumption)
theorem errL_mem {α σ : Type} (f : Nat → σ → α → Int) (nx : Nat → σ → α → σ) : ∀ (xs : List α) (i : Nat) (s : σ), (errL f nx i s xs).1 = 0 → ∀ x ∈ xs, ∃ j t, f j t x = 0
  | [], _, _, _, x, hx => by cases hx
  | a :: r, i, s, h, x, hx => by
    rw [errL] at h
    split at h
    · rcases List.mem_cons.1 hx with rfl | hx
      · exact ⟨i, s, by assumption⟩
      · exact errL_mem f nx r (i + 1) _ h x hx
    · exact absurd h (by assumption)
theorem errL_at {α : Type} (f : Nat → Unit → α → Int) : ∀ (xs : List α) (i : Nat), (errL f (fun _ s _ => s) i () xs).1 = 0 → ∀ (k : Nat) (x : α), xs[k]? = some x → f (i + k) () x = 0
  | [], _, _, k, x, hx => by simp at hx
  | a :: r, i, h, k, x, hx => by
    rw [errL] at h
    split at h
    · cases k with
      | zero => simp at hx; subst hx; assumption
      | succ k =>
        have := errL_at f r (i + 1) h k x (by simpa using hx)
        rw [show i + (k + 1) = i + 1 + k by omega]; exact this
    · exact absurd h (by assumption)
def Dist (cs : List ByteArray) : Prop := ∀ (k : Nat) (c : ByteArray), cs[k]? = some c → (cs.take k).any (fun x => decide (c = x)) = false
theorem if_zero {b : Bool} {c : Int} (h : (if b = true then c else 0) = 0) (hc : c ≠ 0) : b = false := by
  cases b
  · rfl
  · exact absurd h hc
theorem choE_dist {cs : List ByteArray} (h : choE cs = 0) : Dist cs := by
  intro k c hk
  unfold choE at h
  have h1 := errL_at (fun k _ c => dupE cs k c) cs 0 h k c hk
  rw [Nat.zero_add] at h1
  exact if_zero (fnz0 _ h1 (if ((cs.take k).any fun x => decide (c = x)) = true then 6 else 0) (by simp)) (by decide)
theorem layE_dist {L : Lay} (h : layE L = 0) : ∀ a ∈ L.asks, Dist a.choices := by
  intro a ha
  unfold layE at h
  obtain ⟨j, t, h1⟩ := errL_mem (fun i _ a => askE L.asks i a) (fun _ s _ => s) L.asks 0 () (fnz0 _ h _ (by simp)) a ha
  exact choE_dist (fnz0 _ h1 _ (by simp))
theorem sIx_some (s : ByteArray) (cs : List ByteArray) : sIx s cs = -1 ∨ ∃ k : Nat, sIx s cs = k ∧ cs[k]? = some s := by
  rcases fIx_find (fun x => decide (s = x)) cs 0 with ⟨h, _⟩ | ⟨k, x, h1, h2, h3⟩
  · exact .inl h
  · refine .inr ⟨k, by unfold sIx; rw [h1]; simp, ?_⟩
    have := List.find?_some h3
    have e : s = x := by simpa using this
    rw [e]; exact h2
theorem sIx_at {cs : List ByteArray} (hd : Dist cs) {j : Nat} {s : ByteArray} (h : cs[j]? = some s) : sIx s cs = j := by
  have hany : ∀ {k q : Nat}, k < q → cs[k]? = some s → cs[q]? = some s → False := fun {k q} hkq h1 h2 => by
    have h3 := hd q s h2
    have hm : s ∈ cs.take q := List.mem_of_getElem? (i := k) (by rw [List.getElem?_take, if_pos hkq]; exact h1)
    have : (cs.take q).any (fun x => decide (s = x)) = true := List.any_eq_true.2 ⟨s, hm, by simp⟩
    rw [this] at h3; cases h3
  rcases sIx_some s cs with h1 | ⟨k, h1, h2⟩
  · exfalso
    have h2 := fIx_any (fun x => decide (s = x)) cs 0
    unfold sIx at h1
    rw [h1] at h2
    have : cs.any (fun x => decide (s = x)) = true := List.any_eq_true.2 ⟨s, List.mem_of_getElem? h, by simp⟩
    rw [this] at h2; exact absurd h2 (by decide)
  · rw [h1]
    rcases Nat.lt_trichotomy k j with h | h' | h'
    · exact (hany h h2 ‹_›).elim
    · rw [h']
    · exact (hany h' h h2).elim
/-- Choices in the order of their field. -/
structure Inc (cs v : List ByteArray) : Prop where
  has : ∀ s ∈ v, 0 ≤ sIx s cs
  rise : v.Pairwise fun s t => sIx s cs < sIx t cs
theorem Inc.nil (cs : List ByteArray) : Inc cs [] := ⟨fun s h => (by cases h), .nil⟩
theorem ins_inc (cs : List ByteArray) : ∀ (l : List ByteArray) (i : Nat) (b : Int), (errL (fun _ b c => inE cs b c) (fun _ _ c => sIx c cs) i b l).1 = 0 → (∀ s ∈ l, b < sIx s cs) ∧ Inc cs l
  | [], _, _, _ => ⟨fun s h => (by cases h), .nil cs⟩
  | a :: r, i, b, h => by
    rw [errL] at h
    split at h
    · rename_i h0
      unfold inE at h0
      have h1 := if_zero (fnz0 _ h0 (if decide (sIx a cs < 0) = true then 8 else 0) (by simp)) (by decide)
      have h2 := if_zero (fnz0 _ h0 (if decide (sIx a cs ≤ b) = true then 7 else 0) (by simp)) (by decide)
      have h1 : ¬ sIx a cs < 0 := of_decide_eq_false h1
      have h2 : ¬ sIx a cs ≤ b := of_decide_eq_false h2
      obtain ⟨q1, q2⟩ := ins_inc cs r (i + 1) (sIx a cs) h
      refine ⟨fun s hs => ?_, fun s hs => ?_, ?_⟩
      · rcases List.mem_cons.1 hs with rfl | hs
        · omega
        · have := q1 s hs; omega
      · rcases List.mem_cons.1 hs with rfl | hs
        · omega
        · exact q2.has s hs
      · exact List.pairwise_cons.2 ⟨q1, q2.rise⟩
    · exact absurd h (by assumption)
theorem valE_inc {asks : List Ask} {v : List Choice} (h : valE asks v = 0) (f : ByteArray) : Inc (askAtL asks f) (valL v f) := by
  unfold valL
  cases hf : v.find? (isC f) with
  | none => exact .nil _
  | some c =>
    have hm := List.mem_of_find?_eq_some hf
    have hcf : c.field = f := by have := List.find?_some hf; simpa [isC] using this
    unfold valE at h
    obtain ⟨j, t, h1⟩ := errL_mem (fun _ last c => choiceE asks last c) (fun _ _ c => askIx asks c.field) v 0 (-1) (fnz0 _ h _ (by simp)) c hm
    have h2 : insE (askAtL asks c.field) c.choices = 0 := fnz0 _ h1 _ (by simp)
    rw [hcf] at h2
    exact (ins_inc _ _ _ _ h2).2
theorem codsE_inc {asks : List Ask} {C : List Cod} (h : codsE asks C = 0) (f : ByteArray) : ∀ c ∈ C, Inc (askAtL asks f) (valL c.vals f) := by
  intro c hc
  unfold codsE at h
  have h0 : codsL asks C = 0 := fnz0 _ h _ (by simp)
  unfold codsL at h0
  obtain ⟨j, t, h1⟩ := errL_mem (fun _ last c => codE asks last c) (fun _ _ c => c.item) C 0 _ h0 c hc
  exact valE_inc (fnz0 _ h1 (valE asks c.vals) (by simp)) f
/-! ### Counting -/
def hit (cs v : List ByteArray) (j : Nat) : Bool := if j = cs.length then v.isEmpty else match cs[j]? with
  | some c => v.any fun x => decide (c = x)
  | none => false
def bump (cs v : List ByteArray) (g : Nat → Int) : Nat → Int := fun j => g j + if hit cs v j = true then 1 else 0
theorem hit_ix {cs v : List ByteArray} (hd : Dist cs) (hi : Inc cs v) {j : Nat} (hj : j < cs.length) : (v.any fun s => decide (sIx s cs = (j : Int))) = hit cs v j := by
  have hg : cs[j]? = some cs[j] := List.getElem?_eq_getElem hj
  unfold hit
  rw [if_neg (by omega), hg]
  simp only
  rw [Bool.eq_iff_iff, List.any_eq_true, List.any_eq_true]
  constructor
  · rintro ⟨s, hs, h⟩
    have h := of_decide_eq_true h
    rcases sIx_some s cs with h1 | ⟨k, h1, h2⟩
    · omega
    · have : k = j := by omega
      subst this
      rw [hg] at h2
      exact ⟨s, hs, decide_eq_true (Option.some.inj h2)⟩
  · rintro ⟨s, hs, h⟩
    have h := of_decide_eq_true h
    exact ⟨s, hs, decide_eq_true (by rw [← h]; exact sIx_at hd hg)⟩
theorem i1_cel (x : Int) (K : Int → Out) : cel (i1 x) 0 (fun m => dI .i64 m K) = K x := by
  show dI .i64 (.int .i64 x) K = _
  rw [dI_int]
theorem zeros (N : Nat) : List.replicate N [.int .i64 (0 : Int)] = rowG N fun _ => 0 := by
  unfold rowG
  rw [List.map_map]
  apply List.ext_getElem?
  intro i
  by_cases h : i < N
  · simp [h, i1]
  · simp [h]
/-! ### The functions -/
def cnts (L : Lay) (C : List Cod) (f : ByteArray) : List (List MV) := rowG ((askAtL L.asks f).length + 1) (C.foldl (fun g c => bump (askAtL L.asks f) (valL c.vals f) g) fun _ => 0)
theorem askIx_at (L : Lay) (hL : LayOk L) (f : ByteArray) : askIx L.asks f = -1 ∨ ∃ (k : Nat) (a : Ask), askIx L.asks f = k ∧ L.asks[k]? = some a ∧ a ∈ L.asks ∧ askAtL L.asks f = a.choices ∧ a.choices.length ≤ 200000 := by
  rcases fIx_find (isF f) L.asks 0 with ⟨h, _⟩ | ⟨k, a, h1, h2, h3⟩
  · exact .inl h
  · have hm := List.mem_of_getElem? h2
    refine .inr ⟨k, a, by unfold askIx; rw [h1]; simp, h2, hm, ?_, hL.choices a hm⟩
    unfold askAtL; rw [h3]
theorem rdChs {xs : List Ask} {i : Nat} {a : Ask} (h : xs[i]? = some a) (K : List (List MV) → Out) : rd (xs.map askC) (i : Int) (fun e => gd (e.length = 4) (cel e 1 fun m => dL m K)) = K (strs a.choices) := by
  rw [rdn h, gd_pos (askC_len _)]; rfl
end Go.Pv
/- The law CodingCounts. -/
namespace Go.Pv
open Go Go.Proofs

theorem rdStk {xs : List ByteArray} {x : Int} (h0 : 0 ≤ x) (h1 : x.toNat < xs.length) : ∃ s, ∀ K : ByteArray → Out, rd (strs xs) x (fun e => gd (e.length = 1) (cel e 0 fun m => dS m K)) = K s := by
  obtain ⟨y, rfl⟩ : ∃ y : Nat, x = y := ⟨x.toNat, by omega⟩
  simp only [Int.toNat_natCast] at h1
  refine ⟨xs[y], fun K => ?_⟩
  unfold strs
  rw [rdm h1, gd_pos (sS_len _)]
  simp only [sS, cel_zero, dS_str]
/-- What a function of streams hands out as a row of its own. -/
theorem skR_eq (sz : Nat) (l es : List (List MV)) (a : Int) (K : List (List MV) → Int → List (List MV) → Out) :
    (callE (some ([.ref 1], [some (.box [.list l, .int .i64 a]), some (.row false sz es [])])) fun r1 B2 => (unX B2 fun o3 B4 => (dBx o3 fun c5 => (unC c5 fun m6 c7 => (dL m6 fun x8 => (unC c7 fun m9 c10 => (dI .i64 m9 fun x11 => (unN c10 (unX B4 fun o12 B13 => (dRw false sz o12 fun x14 => (unXN B13 (unC r1 fun m15 r16 => (dRf 1 m15 (unN r16 (K x8 x11 x14))))))))))))))) = K l a es := by
  rw [callE_some', unX_cons, dBx_box, unC_cons, dL_list, unC_cons, dI_int, unN_nil, unX_cons, dRw_row, unXN_nil, unC_cons, dRf_ref, unN_nil]
end Go.Pv
