import Derived.Test.YtgffjfhdcdpolaaGreatDoorHB
import Derived.Test.YtgffjfhdcdpolaaGreatDoorProg
set_option maxRecDepth 100000
namespace Go.Pv
open Go Go.Proofs
theorem ti1 : tiOf Tryz.prog 1 = some { kd := TK.func, size := 1, bytes := 8, zero := [MV.nilfn] } := by kernel_rfl
theorem ti2 : tiOf Tryz.prog 2 = some { kd := TK.int IntKind.i64, size := 1, bytes := 8, zero := [MV.int IntKind.i64 0] } := by kernel_rfl
theorem ti3 : tiOf Tryz.prog 3 = some { kd := TK.int IntKind.i64, size := 1, bytes := 8, zero := [MV.int IntKind.i64 0] } := by kernel_rfl
theorem ti4 : tiOf Tryz.prog 4 = some { kd := TK.bool, size := 1, bytes := 1, zero := [MV.bool false] } := by kernel_rfl
theorem ti5 : tiOf Tryz.prog 5 = some { kd := TK.int IntKind.u8, size := 1, bytes := 1, zero := [MV.int IntKind.u8 0] } := by kernel_rfl
theorem ti6 : tiOf Tryz.prog 6 = some { kd := TK.int IntKind.u8, size := 1, bytes := 1, zero := [MV.int IntKind.u8 0] } := by kernel_rfl
theorem ti7 : tiOf Tryz.prog 7 = some { kd := TK.strct [(0, 2), (1, 3), (2, 4), (3, 6)], size := 4, bytes := 24, zero := [MV.int IntKind.i64 0, MV.int IntKind.i64 0, MV.bool false, MV.int IntKind.u8 0] } := by kernel_rfl
theorem ti8 : tiOf Tryz.prog 8 = some { kd := TK.strct [(0, 2), (1, 3), (2, 4), (3, 6)], size := 4, bytes := 24, zero := [MV.int IntKind.i64 0, MV.int IntKind.i64 0, MV.bool false, MV.int IntKind.u8 0] } := by kernel_rfl
theorem ti9 : tiOf Tryz.prog 9 = some { kd := TK.str, size := 1, bytes := 16, zero := [MV.str ByteArray.empty] } := by kernel_rfl
theorem ti10 : tiOf Tryz.prog 10 = some { kd := TK.str, size := 1, bytes := 16, zero := [MV.str ByteArray.empty] } := by kernel_rfl
theorem ti11 : tiOf Tryz.prog 11 = some { kd := TK.str, size := 1, bytes := 16, zero := [MV.str ByteArray.empty] } := by kernel_rfl
theorem ti12 : tiOf Tryz.prog 12 = some { kd := TK.int IntKind.u64, size := 1, bytes := 8, zero := [MV.int IntKind.u64 0] } := by kernel_rfl
theorem ti13 : tiOf Tryz.prog 13 = some { kd := TK.strct [(0, 9), (1, 12)], size := 2, bytes := 24, zero := [MV.str ByteArray.empty, MV.int IntKind.u64 0] } := by kernel_rfl
theorem ti14 : tiOf Tryz.prog 14 = some { kd := TK.strct [(0, 9), (1, 12)], size := 2, bytes := 24, zero := [MV.str ByteArray.empty, MV.int IntKind.u64 0] } := by kernel_rfl
theorem ti15 : tiOf Tryz.prog 15 = some { kd := TK.ptr 263, size := 1, bytes := 8, zero := [MV.nilptr] } := by kernel_rfl
theorem ti16 : tiOf Tryz.prog 16 = some { kd := TK.ptr 266, size := 1, bytes := 8, zero := [MV.nilptr] } := by kernel_rfl
theorem ti17 : tiOf Tryz.prog 17 = some { kd := TK.ptr 273, size := 1, bytes := 8, zero := [MV.nilptr] } := by kernel_rfl
theorem ti18 : tiOf Tryz.prog 18 = some { kd := TK.strct [(0, 17)], size := 1, bytes := 8, zero := [MV.nilptr] } := by kernel_rfl
theorem ti19 : tiOf Tryz.prog 19 = some { kd := TK.strct [(0, 17)], size := 1, bytes := 8, zero := [MV.nilptr] } := by kernel_rfl
theorem ti20 : tiOf Tryz.prog 20 = some { kd := TK.iface, size := 1, bytes := 16, zero := [MV.nilifc] } := by kernel_rfl
theorem ti21 : tiOf Tryz.prog 21 = some { kd := TK.int IntKind.i32, size := 1, bytes := 4, zero := [MV.int IntKind.i32 0] } := by kernel_rfl
theorem ti22 : tiOf Tryz.prog 22 = some { kd := TK.slice 3, size := 1, bytes := 24, zero := [MV.nil] } := by kernel_rfl
theorem ti23 : tiOf Tryz.prog 23 = some { kd := TK.ptr 25, size := 1, bytes := 8, zero := [MV.nilptr] } := by kernel_rfl
theorem ti24 : tiOf Tryz.prog 24 = some { kd := TK.strct [(0, 22), (1, 3)], size := 2, bytes := 32, zero := [MV.nil, MV.int IntKind.i64 0] } := by kernel_rfl
theorem ti25 : tiOf Tryz.prog 25 = some { kd := TK.strct [(0, 22), (1, 3)], size := 2, bytes := 32, zero := [MV.nil, MV.int IntKind.i64 0] } := by kernel_rfl
theorem ti26 : tiOf Tryz.prog 26 = some { kd := TK.slice 75, size := 1, bytes := 24, zero := [MV.nil] } := by kernel_rfl
theorem ti27 : tiOf Tryz.prog 27 = some { kd := TK.slice 78, size := 1, bytes := 24, zero := [MV.nil] } := by kernel_rfl
theorem ti28 : tiOf Tryz.prog 28 = some { kd := TK.strct [(0, 26), (1, 27)], size := 2, bytes := 48, zero := [MV.nil, MV.nil] } := by kernel_rfl
theorem ti29 : tiOf Tryz.prog 29 = some { kd := TK.strct [(0, 26), (1, 27)], size := 2, bytes := 48, zero := [MV.nil, MV.nil] } := by kernel_rfl
theorem ti30 : tiOf Tryz.prog 30 = some { kd := TK.func, size := 1, bytes := 8, zero := [MV.nilfn] } := by kernel_rfl
theorem ti31 : tiOf Tryz.prog 31 = some { kd := TK.int IntKind.i64, size := 1, bytes := 8, zero := [MV.int IntKind.i64 0] } := by kernel_rfl
theorem ti33 : tiOf Tryz.prog 33 = some { kd := TK.func, size := 1, bytes := 8, zero := [MV.nilfn] } := by kernel_rfl
theorem ti34 : tiOf Tryz.prog 34 = some { kd := TK.func, size := 1, bytes := 8, zero := [MV.nilfn] } := by kernel_rfl
theorem ti35 : tiOf Tryz.prog 35 = some { kd := TK.func, size := 1, bytes := 8, zero := [MV.nilfn] } := by kernel_rfl
theorem ti36 : tiOf Tryz.prog 36 = some { kd := TK.func, size := 1, bytes := 8, zero := [MV.nilfn] } := by kernel_rfl
theorem ti38 : tiOf Tryz.prog 38 = some { kd := TK.func, size := 1, bytes := 8, zero := [MV.nilfn] } := by kernel_rfl
theorem ti39 : tiOf Tryz.prog 39 = some { kd := TK.func, size := 1, bytes := 8, zero := [MV.nilfn] } := by kernel_rfl
theorem ti40 : tiOf Tryz.prog 40 = some { kd := TK.func, size := 1, bytes := 8, zero := [MV.nilfn] } := by kernel_rfl
theorem ti41 : tiOf Tryz.prog 41 = some { kd := TK.func, size := 1, bytes := 8, zero := [MV.nilfn] } := by kernel_rfl
theorem ti42 : tiOf Tryz.prog 42 = some { kd := TK.slice 9, size := 1, bytes := 24, zero := [MV.nil] } := by kernel_rfl
theorem ti43 : tiOf Tryz.prog 43 = some { kd := TK.func, size := 1, bytes := 8, zero := [MV.nilfn] } := by kernel_rfl
theorem ti44 : tiOf Tryz.prog 44 = some { kd := TK.func, size := 1, bytes := 8, zero := [MV.nilfn] } := by kernel_rfl
theorem ti45 : tiOf Tryz.prog 45 = some { kd := TK.func, size := 1, bytes := 8, zero := [MV.nilfn] } := by kernel_rfl
theorem ti46 : tiOf Tryz.prog 46 = some { kd := TK.func, size := 1, bytes := 8, zero := [MV.nilfn] } := by kernel_rfl
theorem ti47 : tiOf Tryz.prog 47 = some { kd := TK.func, size := 1, bytes := 8, zero := [MV.nilfn] } := by kernel_rfl
theorem ti48 : tiOf Tryz.prog 48 = some { kd := TK.func, size := 1, bytes := 8, zero := [MV.nilfn] } := by kernel_rfl
theorem ti49 : tiOf Tryz.prog 49 = some { kd := TK.slice 42, size := 1, bytes := 24, zero := [MV.nil] } := by kernel_rfl
theorem ti51 : tiOf Tryz.prog 51 = some { kd := TK.func, size := 1, bytes := 8, zero := [MV.nilfn] } := by kernel_rfl
theorem ti52 : tiOf Tryz.prog 52 = some { kd := TK.func, size := 1, bytes := 8, zero := [MV.nilfn] } := by kernel_rfl
theorem ti53 : tiOf Tryz.prog 53 = some { kd := TK.func, size := 1, bytes := 8, zero := [MV.nilfn] } := by kernel_rfl
theorem ti54 : tiOf Tryz.prog 54 = some { kd := TK.func, size := 1, bytes := 8, zero := [MV.nilfn] } := by kernel_rfl
theorem ti55 : tiOf Tryz.prog 55 = some { kd := TK.func, size := 1, bytes := 8, zero := [MV.nilfn] } := by kernel_rfl
theorem ti56 : tiOf Tryz.prog 56 = some { kd := TK.func, size := 1, bytes := 8, zero := [MV.nilfn] } := by kernel_rfl
theorem ti57 : tiOf Tryz.prog 57 = some { kd := TK.func, size := 1, bytes := 8, zero := [MV.nilfn] } := by kernel_rfl
theorem ti58 : tiOf Tryz.prog 58 = some { kd := TK.func, size := 1, bytes := 8, zero := [MV.nilfn] } := by kernel_rfl
theorem ti59 : tiOf Tryz.prog 59 = some { kd := TK.slice 120, size := 1, bytes := 24, zero := [MV.nil] } := by kernel_rfl
theorem ti60 : tiOf Tryz.prog 60 = some { kd := TK.func, size := 1, bytes := 8, zero := [MV.nilfn] } := by kernel_rfl
theorem ti61 : tiOf Tryz.prog 61 = some { kd := TK.slice 116, size := 1, bytes := 24, zero := [MV.nil] } := by kernel_rfl
theorem ti62 : tiOf Tryz.prog 62 = some { kd := TK.func, size := 1, bytes := 8, zero := [MV.nilfn] } := by kernel_rfl
theorem ti64 : tiOf Tryz.prog 64 = some { kd := TK.func, size := 1, bytes := 8, zero := [MV.nilfn] } := by kernel_rfl
theorem ti66 : tiOf Tryz.prog 66 = some { kd := TK.func, size := 1, bytes := 8, zero := [MV.nilfn] } := by kernel_rfl
theorem ti67 : tiOf Tryz.prog 67 = some { kd := TK.func, size := 1, bytes := 8, zero := [MV.nilfn] } := by kernel_rfl
theorem ti69 : tiOf Tryz.prog 69 = some { kd := TK.func, size := 1, bytes := 8, zero := [MV.nilfn] } := by kernel_rfl
theorem ti71 : tiOf Tryz.prog 71 = some { kd := TK.func, size := 1, bytes := 8, zero := [MV.nilfn] } := by kernel_rfl
theorem ti72 : tiOf Tryz.prog 72 = some { kd := TK.func, size := 1, bytes := 8, zero := [MV.nilfn] } := by kernel_rfl
theorem ti73 : tiOf Tryz.prog 73 = some { kd := TK.ptr 75, size := 1, bytes := 8, zero := [MV.nilptr] } := by kernel_rfl
theorem ti74 : tiOf Tryz.prog 74 = some { kd := TK.strct [(0, 9), (1, 42), (2, 4), (3, 3)], size := 4, bytes := 56, zero := [MV.str ByteArray.empty, MV.nil, MV.bool false, MV.int IntKind.i64 0] } := by kernel_rfl
theorem ti75 : tiOf Tryz.prog 75 = some { kd := TK.strct [(0, 9), (1, 42), (2, 4), (3, 3)], size := 4, bytes := 56, zero := [MV.str ByteArray.empty, MV.nil, MV.bool false, MV.int IntKind.i64 0] } := by kernel_rfl
theorem ti76 : tiOf Tryz.prog 76 = some { kd := TK.func, size := 1, bytes := 8, zero := [MV.nilfn] } := by kernel_rfl
theorem ti77 : tiOf Tryz.prog 77 = some { kd := TK.strct [(0, 3), (1, 9), (2, 9), (3, 9), (4, 9)], size := 5, bytes := 72, zero := [MV.int IntKind.i64 0, MV.str ByteArray.empty, MV.str ByteArray.empty, MV.str ByteArray.empty, MV.str ByteArray.empty] } := by kernel_rfl
theorem ti78 : tiOf Tryz.prog 78 = some { kd := TK.strct [(0, 3), (1, 9), (2, 9), (3, 9), (4, 9)], size := 5, bytes := 72, zero := [MV.int IntKind.i64 0, MV.str ByteArray.empty, MV.str ByteArray.empty, MV.str ByteArray.empty, MV.str ByteArray.empty] } := by kernel_rfl
theorem ti79 : tiOf Tryz.prog 79 = some { kd := TK.func, size := 1, bytes := 8, zero := [MV.nilfn] } := by kernel_rfl
theorem ti80 : tiOf Tryz.prog 80 = some { kd := TK.func, size := 1, bytes := 8, zero := [MV.nilfn] } := by kernel_rfl
theorem ti81 : tiOf Tryz.prog 81 = some { kd := TK.func, size := 1, bytes := 8, zero := [MV.nilfn] } := by kernel_rfl
theorem ti82 : tiOf Tryz.prog 82 = some { kd := TK.func, size := 1, bytes := 8, zero := [MV.nilfn] } := by kernel_rfl
theorem ti83 : tiOf Tryz.prog 83 = some { kd := TK.func, size := 1, bytes := 8, zero := [MV.nilfn] } := by kernel_rfl
theorem ti84 : tiOf Tryz.prog 84 = some { kd := TK.func, size := 1, bytes := 8, zero := [MV.nilfn] } := by kernel_rfl
theorem ti85 : tiOf Tryz.prog 85 = some { kd := TK.func, size := 1, bytes := 8, zero := [MV.nilfn] } := by kernel_rfl
theorem ti86 : tiOf Tryz.prog 86 = some { kd := TK.func, size := 1, bytes := 8, zero := [MV.nilfn] } := by kernel_rfl
theorem ti87 : tiOf Tryz.prog 87 = some { kd := TK.func, size := 1, bytes := 8, zero := [MV.nilfn] } := by kernel_rfl
theorem ti88 : tiOf Tryz.prog 88 = some { kd := TK.func, size := 1, bytes := 8, zero := [MV.nilfn] } := by kernel_rfl
theorem ti89 : tiOf Tryz.prog 89 = some { kd := TK.func, size := 1, bytes := 8, zero := [MV.nilfn] } := by kernel_rfl
theorem ti90 : tiOf Tryz.prog 90 = some { kd := TK.func, size := 1, bytes := 8, zero := [MV.nilfn] } := by kernel_rfl
theorem ti92 : tiOf Tryz.prog 92 = some { kd := TK.func, size := 1, bytes := 8, zero := [MV.nilfn] } := by kernel_rfl
theorem ti94 : tiOf Tryz.prog 94 = some { kd := TK.func, size := 1, bytes := 8, zero := [MV.nilfn] } := by kernel_rfl
theorem ti95 : tiOf Tryz.prog 95 = some { kd := TK.func, size := 1, bytes := 8, zero := [MV.nilfn] } := by kernel_rfl
theorem ti97 : tiOf Tryz.prog 97 = some { kd := TK.func, size := 1, bytes := 8, zero := [MV.nilfn] } := by kernel_rfl
theorem ti98 : tiOf Tryz.prog 98 = some { kd := TK.func, size := 1, bytes := 8, zero := [MV.nilfn] } := by kernel_rfl
theorem ti99 : tiOf Tryz.prog 99 = some { kd := TK.func, size := 1, bytes := 8, zero := [MV.nilfn] } := by kernel_rfl
theorem ti100 : tiOf Tryz.prog 100 = some { kd := TK.func, size := 1, bytes := 8, zero := [MV.nilfn] } := by kernel_rfl
theorem ti101 : tiOf Tryz.prog 101 = some { kd := TK.func, size := 1, bytes := 8, zero := [MV.nilfn] } := by kernel_rfl
theorem ti102 : tiOf Tryz.prog 102 = some { kd := TK.func, size := 1, bytes := 8, zero := [MV.nilfn] } := by kernel_rfl
theorem ti103 : tiOf Tryz.prog 103 = some { kd := TK.func, size := 1, bytes := 8, zero := [MV.nilfn] } := by kernel_rfl
theorem ti104 : tiOf Tryz.prog 104 = some { kd := TK.func, size := 1, bytes := 8, zero := [MV.nilfn] } := by kernel_rfl
theorem ti105 : tiOf Tryz.prog 105 = some { kd := TK.func, size := 1, bytes := 8, zero := [MV.nilfn] } := by kernel_rfl
theorem ti106 : tiOf Tryz.prog 106 = some { kd := TK.func, size := 1, bytes := 8, zero := [MV.nilfn] } := by kernel_rfl
theorem ti107 : tiOf Tryz.prog 107 = some { kd := TK.slice 31, size := 1, bytes := 24, zero := [MV.nil] } := by kernel_rfl
theorem ti109 : tiOf Tryz.prog 109 = some { kd := TK.func, size := 1, bytes := 8, zero := [MV.nilfn] } := by kernel_rfl
theorem ti110 : tiOf Tryz.prog 110 = some { kd := TK.func, size := 1, bytes := 8, zero := [MV.nilfn] } := by kernel_rfl
theorem ti111 : tiOf Tryz.prog 111 = some { kd := TK.strct [(0, 3), (1, 3), (2, 3)], size := 3, bytes := 24, zero := [MV.int IntKind.i64 0, MV.int IntKind.i64 0, MV.int IntKind.i64 0] } := by kernel_rfl
theorem ti112 : tiOf Tryz.prog 112 = some { kd := TK.strct [(0, 3), (1, 3), (2, 3)], size := 3, bytes := 24, zero := [MV.int IntKind.i64 0, MV.int IntKind.i64 0, MV.int IntKind.i64 0] } := by kernel_rfl
theorem ti113 : tiOf Tryz.prog 113 = some { kd := TK.strct [(0, 3), (1, 3)], size := 2, bytes := 16, zero := [MV.int IntKind.i64 0, MV.int IntKind.i64 0] } := by kernel_rfl
theorem ti114 : tiOf Tryz.prog 114 = some { kd := TK.strct [(0, 3), (1, 3)], size := 2, bytes := 16, zero := [MV.int IntKind.i64 0, MV.int IntKind.i64 0] } := by kernel_rfl
theorem ti115 : tiOf Tryz.prog 115 = some { kd := TK.strct [(0, 9), (1, 9), (2, 3), (3, 9), (4, 3), (5, 9), (6, 9)], size := 7, bytes := 96, zero := [MV.str ByteArray.empty, MV.str ByteArray.empty, MV.int IntKind.i64 0, MV.str ByteArray.empty, MV.int IntKind.i64 0, MV.str ByteArray.empty, MV.str ByteArray.empty] } := by kernel_rfl
theorem ti116 : tiOf Tryz.prog 116 = some { kd := TK.strct [(0, 9), (1, 9), (2, 3), (3, 9), (4, 3), (5, 9), (6, 9)], size := 7, bytes := 96, zero := [MV.str ByteArray.empty, MV.str ByteArray.empty, MV.int IntKind.i64 0, MV.str ByteArray.empty, MV.int IntKind.i64 0, MV.str ByteArray.empty, MV.str ByteArray.empty] } := by kernel_rfl
theorem ti117 : tiOf Tryz.prog 117 = some { kd := TK.slice 155, size := 1, bytes := 24, zero := [MV.nil] } := by kernel_rfl
theorem ti118 : tiOf Tryz.prog 118 = some { kd := TK.func, size := 1, bytes := 8, zero := [MV.nilfn] } := by kernel_rfl
theorem ti119 : tiOf Tryz.prog 119 = some { kd := TK.strct [(0, 9), (1, 117)], size := 2, bytes := 40, zero := [MV.str ByteArray.empty, MV.nil] } := by kernel_rfl
theorem ti120 : tiOf Tryz.prog 120 = some { kd := TK.strct [(0, 9), (1, 117)], size := 2, bytes := 40, zero := [MV.str ByteArray.empty, MV.nil] } := by kernel_rfl
theorem ti121 : tiOf Tryz.prog 121 = some { kd := TK.func, size := 1, bytes := 8, zero := [MV.nilfn] } := by kernel_rfl
theorem ti122 : tiOf Tryz.prog 122 = some { kd := TK.func, size := 1, bytes := 8, zero := [MV.nilfn] } := by kernel_rfl
theorem ti123 : tiOf Tryz.prog 123 = some { kd := TK.func, size := 1, bytes := 8, zero := [MV.nilfn] } := by kernel_rfl
theorem ti124 : tiOf Tryz.prog 124 = some { kd := TK.func, size := 1, bytes := 8, zero := [MV.nilfn] } := by kernel_rfl
theorem ti125 : tiOf Tryz.prog 125 = some { kd := TK.func, size := 1, bytes := 8, zero := [MV.nilfn] } := by kernel_rfl
theorem ti126 : tiOf Tryz.prog 126 = some { kd := TK.func, size := 1, bytes := 8, zero := [MV.nilfn] } := by kernel_rfl
theorem ti127 : tiOf Tryz.prog 127 = some { kd := TK.func, size := 1, bytes := 8, zero := [MV.nilfn] } := by kernel_rfl
theorem ti128 : tiOf Tryz.prog 128 = some { kd := TK.func, size := 1, bytes := 8, zero := [MV.nilfn] } := by kernel_rfl
theorem ti129 : tiOf Tryz.prog 129 = some { kd := TK.func, size := 1, bytes := 8, zero := [MV.nilfn] } := by kernel_rfl
theorem ti130 : tiOf Tryz.prog 130 = some { kd := TK.ptr 133, size := 1, bytes := 8, zero := [MV.nilptr] } := by kernel_rfl
theorem ti131 : tiOf Tryz.prog 131 = some { kd := TK.slice 5, size := 1, bytes := 24, zero := [MV.nil] } := by kernel_rfl
theorem ti132 : tiOf Tryz.prog 132 = some { kd := TK.strct [(0, 130), (1, 131)], size := 2, bytes := 32, zero := [MV.nilptr, MV.nil] } := by kernel_rfl
theorem ti133 : tiOf Tryz.prog 133 = some { kd := TK.strct [(0, 130), (1, 131)], size := 2, bytes := 32, zero := [MV.nilptr, MV.nil] } := by kernel_rfl
theorem ti134 : tiOf Tryz.prog 134 = some { kd := TK.func, size := 1, bytes := 8, zero := [MV.nilfn] } := by kernel_rfl
theorem ti135 : tiOf Tryz.prog 135 = some { kd := TK.iface, size := 1, bytes := 16, zero := [MV.nilifc] } := by kernel_rfl
theorem ti136 : tiOf Tryz.prog 136 = some { kd := TK.iface, size := 1, bytes := 16, zero := [MV.nilifc] } := by kernel_rfl
theorem ti138 : tiOf Tryz.prog 138 = some { kd := TK.func, size := 1, bytes := 8, zero := [MV.nilfn] } := by kernel_rfl
theorem ti139 : tiOf Tryz.prog 139 = some { kd := TK.func, size := 1, bytes := 8, zero := [MV.nilfn] } := by kernel_rfl
theorem ti140 : tiOf Tryz.prog 140 = some { kd := TK.func, size := 1, bytes := 8, zero := [MV.nilfn] } := by kernel_rfl
theorem ti141 : tiOf Tryz.prog 141 = some { kd := TK.func, size := 1, bytes := 8, zero := [MV.nilfn] } := by kernel_rfl
theorem ti142 : tiOf Tryz.prog 142 = some { kd := TK.func, size := 1, bytes := 8, zero := [MV.nilfn] } := by kernel_rfl
theorem ti144 : tiOf Tryz.prog 144 = some { kd := TK.func, size := 1, bytes := 8, zero := [MV.nilfn] } := by kernel_rfl
theorem ti145 : tiOf Tryz.prog 145 = some { kd := TK.func, size := 1, bytes := 8, zero := [MV.nilfn] } := by kernel_rfl
theorem ti146 : tiOf Tryz.prog 146 = some { kd := TK.func, size := 1, bytes := 8, zero := [MV.nilfn] } := by kernel_rfl
theorem ti147 : tiOf Tryz.prog 147 = some { kd := TK.func, size := 1, bytes := 8, zero := [MV.nilfn] } := by kernel_rfl
theorem ti148 : tiOf Tryz.prog 148 = some { kd := TK.int IntKind.u64, size := 1, bytes := 8, zero := [MV.int IntKind.u64 0] } := by kernel_rfl
theorem ti149 : tiOf Tryz.prog 149 = some { kd := TK.int IntKind.u32, size := 1, bytes := 4, zero := [MV.int IntKind.u32 0] } := by kernel_rfl
theorem ti150 : tiOf Tryz.prog 150 = some { kd := TK.func, size := 1, bytes := 8, zero := [MV.nilfn] } := by kernel_rfl
theorem ti151 : tiOf Tryz.prog 151 = some { kd := TK.func, size := 1, bytes := 8, zero := [MV.nilfn] } := by kernel_rfl
theorem ti152 : tiOf Tryz.prog 152 = some { kd := TK.int IntKind.u64, size := 1, bytes := 8, zero := [MV.int IntKind.u64 0] } := by kernel_rfl
theorem ti153 : tiOf Tryz.prog 153 = some { kd := TK.func, size := 1, bytes := 8, zero := [MV.nilfn] } := by kernel_rfl
theorem ti154 : tiOf Tryz.prog 154 = some { kd := TK.strct [(0, 9), (1, 42)], size := 2, bytes := 40, zero := [MV.str ByteArray.empty, MV.nil] } := by kernel_rfl
theorem ti155 : tiOf Tryz.prog 155 = some { kd := TK.strct [(0, 9), (1, 42)], size := 2, bytes := 40, zero := [MV.str ByteArray.empty, MV.nil] } := by kernel_rfl
theorem ti156 : tiOf Tryz.prog 156 = some { kd := TK.func, size := 1, bytes := 8, zero := [MV.nilfn] } := by kernel_rfl
theorem ti157 : tiOf Tryz.prog 157 = some { kd := TK.func, size := 1, bytes := 8, zero := [MV.nilfn] } := by kernel_rfl
theorem ti158 : tiOf Tryz.prog 158 = some { kd := TK.func, size := 1, bytes := 8, zero := [MV.nilfn] } := by kernel_rfl
theorem ti159 : tiOf Tryz.prog 159 = some { kd := TK.func, size := 1, bytes := 8, zero := [MV.nilfn] } := by kernel_rfl
theorem ti160 : tiOf Tryz.prog 160 = some { kd := TK.func, size := 1, bytes := 8, zero := [MV.nilfn] } := by kernel_rfl
theorem ti161 : tiOf Tryz.prog 161 = some { kd := TK.ptr 5, size := 1, bytes := 8, zero := [MV.nilptr] } := by kernel_rfl
theorem ti162 : tiOf Tryz.prog 162 = some { kd := TK.arr 256 5, size := 256, bytes := 256, zero := [MV.int IntKind.u8 0, MV.int IntKind.u8 0, MV.int IntKind.u8 0, MV.int IntKind.u8 0, MV.int IntKind.u8 0, MV.int IntKind.u8 0, MV.int IntKind.u8 0, MV.int IntKind.u8 0, MV.int IntKind.u8 0, MV.int IntKind.u8 0, MV.int IntKind.u8 0, MV.int IntKind.u8 0, MV.int IntKind.u8 0, MV.int IntKind.u8 0, MV.int IntKind.u8 0, MV.int IntKind.u8 0, MV.int IntKind.u8 0, MV.int IntKind.u8 0, MV.int IntKind.u8 0, MV.int IntKind.u8 0, MV.int IntKind.u8 0, MV.int IntKind.u8 0, MV.int IntKind.u8 0, MV.int IntKind.u8 0, MV.int IntKind.u8 0, MV.int IntKind.u8 0, MV.int IntKind.u8 0, MV.int IntKind.u8 0, MV.int IntKind.u8 0, MV.int IntKind.u8 0, MV.int IntKind.u8 0, MV.int IntKind.u8 0, MV.int IntKind.u8 0, MV.int IntKind.u8 0, MV.int IntKind.u8 0, MV.int IntKind.u8 0, MV.int IntKind.u8 0, MV.int IntKind.u8 0, MV.int IntKind.u8 0, MV.int IntKind.u8 0, MV.int IntKind.u8 0, MV.int IntKind.u8 0, MV.int IntKind.u8 0, MV.int IntKind.u8 0, MV.int IntKind.u8 0, MV.int IntKind.u8 0, MV.int IntKind.u8 0, MV.int IntKind.u8 0, MV.int IntKind.u8 0, MV.int IntKind.u8 0, MV.int IntKind.u8 0, MV.int IntKind.u8 0, MV.int IntKind.u8 0, MV.int IntKind.u8 0, MV.int IntKind.u8 0, MV.int IntKind.u8 0, MV.int IntKind.u8 0, MV.int IntKind.u8 0, MV.int IntKind.u8 0, MV.int IntKind.u8 0, MV.int IntKind.u8 0, MV.int IntKind.u8 0, MV.int IntKind.u8 0, MV.int IntKind.u8 0, MV.int IntKind.u8 0, MV.int IntKind.u8 0, MV.int IntKind.u8 0, MV.int IntKind.u8 0, MV.int IntKind.u8 0, MV.int IntKind.u8 0, MV.int IntKind.u8 0, MV.int IntKind.u8 0, MV.int IntKind.u8 0, MV.int IntKind.u8 0, MV.int IntKind.u8 0, MV.int IntKind.u8 0, MV.int IntKind.u8 0, MV.int IntKind.u8 0, MV.int IntKind.u8 0, MV.int IntKind.u8 0, MV.int IntKind.u8 0, MV.int IntKind.u8 0, MV.int IntKind.u8 0, MV.int IntKind.u8 0, MV.int IntKind.u8 0, MV.int IntKind.u8 0, MV.int IntKind.u8 0, MV.int IntKind.u8 0, MV.int IntKind.u8 0, MV.int IntKind.u8 0, MV.int IntKind.u8 0, MV.int IntKind.u8 0, MV.int IntKind.u8 0, MV.int IntKind.u8 0, MV.int IntKind.u8 0, MV.int IntKind.u8 0, MV.int IntKind.u8 0, MV.int IntKind.u8 0, MV.int IntKind.u8 0, MV.int IntKind.u8 0, MV.int IntKind.u8 0, MV.int IntKind.u8 0, MV.int IntKind.u8 0, MV.int IntKind.u8 0, MV.int IntKind.u8 0, MV.int IntKind.u8 0, MV.int IntKind.u8 0, MV.int IntKind.u8 0, MV.int IntKind.u8 0, MV.int IntKind.u8 0, MV.int IntKind.u8 0, MV.int IntKind.u8 0, MV.int IntKind.u8 0, MV.int IntKind.u8 0, MV.int IntKind.u8 0, MV.int IntKind.u8 0, MV.int IntKind.u8 0, MV.int IntKind.u8 0, MV.int IntKind.u8 0, MV.int IntKind.u8 0, MV.int IntKind.u8 0, MV.int IntKind.u8 0, MV.int IntKind.u8 0, MV.int IntKind.u8 0, MV.int IntKind.u8 0, MV.int IntKind.u8 0, MV.int IntKind.u8 0, MV.int IntKind.u8 0, MV.int IntKind.u8 0, MV.int IntKind.u8 0, MV.int IntKind.u8 0, MV.int IntKind.u8 0, MV.int IntKind.u8 0, MV.int IntKind.u8 0, MV.int IntKind.u8 0, MV.int IntKind.u8 0, MV.int IntKind.u8 0, MV.int IntKind.u8 0, MV.int IntKind.u8 0, MV.int IntKind.u8 0, MV.int IntKind.u8 0, MV.int IntKind.u8 0, MV.int IntKind.u8 0, MV.int IntKind.u8 0, MV.int IntKind.u8 0, MV.int IntKind.u8 0, MV.int IntKind.u8 0, MV.int IntKind.u8 0, MV.int IntKind.u8 0, MV.int IntKind.u8 0, MV.int IntKind.u8 0, MV.int IntKind.u8 0, MV.int IntKind.u8 0, MV.int IntKind.u8 0, MV.int IntKind.u8 0, MV.int IntKind.u8 0, MV.int IntKind.u8 0, MV.int IntKind.u8 0, MV.int IntKind.u8 0, MV.int IntKind.u8 0, MV.int IntKind.u8 0, MV.int IntKind.u8 0, MV.int IntKind.u8 0, MV.int IntKind.u8 0, MV.int IntKind.u8 0, MV.int IntKind.u8 0, MV.int IntKind.u8 0, MV.int IntKind.u8 0, MV.int IntKind.u8 0, MV.int IntKind.u8 0, MV.int IntKind.u8 0, MV.int IntKind.u8 0, MV.int IntKind.u8 0, MV.int IntKind.u8 0, MV.int IntKind.u8 0, MV.int IntKind.u8 0, MV.int IntKind.u8 0, MV.int IntKind.u8 0, MV.int IntKind.u8 0, MV.int IntKind.u8 0, MV.int IntKind.u8 0, MV.int IntKind.u8 0, MV.int IntKind.u8 0, MV.int IntKind.u8 0, MV.int IntKind.u8 0, MV.int IntKind.u8 0, MV.int IntKind.u8 0, MV.int IntKind.u8 0, MV.int IntKind.u8 0, MV.int IntKind.u8 0, MV.int IntKind.u8 0, MV.int IntKind.u8 0, MV.int IntKind.u8 0, MV.int IntKind.u8 0, MV.int IntKind.u8 0, MV.int IntKind.u8 0, MV.int IntKind.u8 0, MV.int IntKind.u8 0, MV.int IntKind.u8 0, MV.int IntKind.u8 0, MV.int IntKind.u8 0, MV.int IntKind.u8 0, MV.int IntKind.u8 0, MV.int IntKind.u8 0, MV.int IntKind.u8 0, MV.int IntKind.u8 0, MV.int IntKind.u8 0, MV.int IntKind.u8 0, MV.int IntKind.u8 0, MV.int IntKind.u8 0, MV.int IntKind.u8 0, MV.int IntKind.u8 0, MV.int IntKind.u8 0, MV.int IntKind.u8 0, MV.int IntKind.u8 0, MV.int IntKind.u8 0, MV.int IntKind.u8 0, MV.int IntKind.u8 0, MV.int IntKind.u8 0, MV.int IntKind.u8 0, MV.int IntKind.u8 0, MV.int IntKind.u8 0, MV.int IntKind.u8 0, MV.int IntKind.u8 0, MV.int IntKind.u8 0, MV.int IntKind.u8 0, MV.int IntKind.u8 0, MV.int IntKind.u8 0, MV.int IntKind.u8 0, MV.int IntKind.u8 0, MV.int IntKind.u8 0, MV.int IntKind.u8 0, MV.int IntKind.u8 0, MV.int IntKind.u8 0, MV.int IntKind.u8 0, MV.int IntKind.u8 0, MV.int IntKind.u8 0, MV.int IntKind.u8 0, MV.int IntKind.u8 0, MV.int IntKind.u8 0, MV.int IntKind.u8 0, MV.int IntKind.u8 0, MV.int IntKind.u8 0, MV.int IntKind.u8 0, MV.int IntKind.u8 0, MV.int IntKind.u8 0, MV.int IntKind.u8 0, MV.int IntKind.u8 0, MV.int IntKind.u8 0, MV.int IntKind.u8 0, MV.int IntKind.u8 0, MV.int IntKind.u8 0, MV.int IntKind.u8 0, MV.int IntKind.u8 0, MV.int IntKind.u8 0, MV.int IntKind.u8 0] } := by kernel_rfl
theorem ti163 : tiOf Tryz.prog 163 = some { kd := TK.func, size := 1, bytes := 8, zero := [MV.nilfn] } := by kernel_rfl
theorem ti164 : tiOf Tryz.prog 164 = some { kd := TK.func, size := 1, bytes := 8, zero := [MV.nilfn] } := by kernel_rfl
theorem ti166 : tiOf Tryz.prog 166 = some { kd := TK.func, size := 1, bytes := 8, zero := [MV.nilfn] } := by kernel_rfl
theorem ti167 : tiOf Tryz.prog 167 = some { kd := TK.func, size := 1, bytes := 8, zero := [MV.nilfn] } := by kernel_rfl
theorem ti168 : tiOf Tryz.prog 168 = some { kd := TK.func, size := 1, bytes := 8, zero := [MV.nilfn] } := by kernel_rfl
theorem ti169 : tiOf Tryz.prog 169 = some { kd := TK.func, size := 1, bytes := 8, zero := [MV.nilfn] } := by kernel_rfl
theorem ti170 : tiOf Tryz.prog 170 = some { kd := TK.int IntKind.i64, size := 1, bytes := 8, zero := [MV.int IntKind.i64 0] } := by kernel_rfl
theorem ti172 : tiOf Tryz.prog 172 = some { kd := TK.func, size := 1, bytes := 8, zero := [MV.nilfn] } := by kernel_rfl
theorem ti173 : tiOf Tryz.prog 173 = some { kd := TK.func, size := 1, bytes := 8, zero := [MV.nilfn] } := by kernel_rfl
theorem ti174 : tiOf Tryz.prog 174 = some { kd := TK.func, size := 1, bytes := 8, zero := [MV.nilfn] } := by kernel_rfl
theorem ti175 : tiOf Tryz.prog 175 = some { kd := TK.func, size := 1, bytes := 8, zero := [MV.nilfn] } := by kernel_rfl
theorem ti176 : tiOf Tryz.prog 176 = some { kd := TK.func, size := 1, bytes := 8, zero := [MV.nilfn] } := by kernel_rfl
theorem ti177 : tiOf Tryz.prog 177 = some { kd := TK.func, size := 1, bytes := 8, zero := [MV.nilfn] } := by kernel_rfl
theorem ti178 : tiOf Tryz.prog 178 = some { kd := TK.func, size := 1, bytes := 8, zero := [MV.nilfn] } := by kernel_rfl
theorem ti179 : tiOf Tryz.prog 179 = some { kd := TK.func, size := 1, bytes := 8, zero := [MV.nilfn] } := by kernel_rfl
theorem ti180 : tiOf Tryz.prog 180 = some { kd := TK.func, size := 1, bytes := 8, zero := [MV.nilfn] } := by kernel_rfl
theorem ti181 : tiOf Tryz.prog 181 = some { kd := TK.func, size := 1, bytes := 8, zero := [MV.nilfn] } := by kernel_rfl
theorem ti183 : tiOf Tryz.prog 183 = some { kd := TK.func, size := 1, bytes := 8, zero := [MV.nilfn] } := by kernel_rfl
theorem ti184 : tiOf Tryz.prog 184 = some { kd := TK.func, size := 1, bytes := 8, zero := [MV.nilfn] } := by kernel_rfl
theorem ti185 : tiOf Tryz.prog 185 = some { kd := TK.func, size := 1, bytes := 8, zero := [MV.nilfn] } := by kernel_rfl
theorem ti186 : tiOf Tryz.prog 186 = some { kd := TK.func, size := 1, bytes := 8, zero := [MV.nilfn] } := by kernel_rfl
theorem ti187 : tiOf Tryz.prog 187 = some { kd := TK.func, size := 1, bytes := 8, zero := [MV.nilfn] } := by kernel_rfl
theorem ti188 : tiOf Tryz.prog 188 = some { kd := TK.func, size := 1, bytes := 8, zero := [MV.nilfn] } := by kernel_rfl
theorem ti189 : tiOf Tryz.prog 189 = some { kd := TK.other, size := 1, bytes := 8, zero := [MV.nilptr] } := by kernel_rfl
theorem ti190 : tiOf Tryz.prog 190 = some { kd := TK.func, size := 1, bytes := 8, zero := [MV.nilfn] } := by kernel_rfl
theorem ti191 : tiOf Tryz.prog 191 = some { kd := TK.func, size := 1, bytes := 8, zero := [MV.nilfn] } := by kernel_rfl
theorem ti192 : tiOf Tryz.prog 192 = some { kd := TK.slice 194, size := 1, bytes := 24, zero := [MV.nil] } := by kernel_rfl
theorem ti193 : tiOf Tryz.prog 193 = some { kd := TK.strct [(0, 3), (1, 3)], size := 2, bytes := 16, zero := [MV.int IntKind.i64 0, MV.int IntKind.i64 0] } := by kernel_rfl
theorem ti194 : tiOf Tryz.prog 194 = some { kd := TK.strct [(0, 3), (1, 3)], size := 2, bytes := 16, zero := [MV.int IntKind.i64 0, MV.int IntKind.i64 0] } := by kernel_rfl
theorem ti195 : tiOf Tryz.prog 195 = some { kd := TK.func, size := 1, bytes := 8, zero := [MV.nilfn] } := by kernel_rfl
theorem ti196 : tiOf Tryz.prog 196 = some { kd := TK.ptr 237, size := 1, bytes := 8, zero := [MV.nilptr] } := by kernel_rfl
theorem ti197 : tiOf Tryz.prog 197 = some { kd := TK.func, size := 1, bytes := 8, zero := [MV.nilfn] } := by kernel_rfl
theorem ti198 : tiOf Tryz.prog 198 = some { kd := TK.arr 256 4, size := 256, bytes := 256, zero := [MV.bool false, MV.bool false, MV.bool false, MV.bool false, MV.bool false, MV.bool false, MV.bool false, MV.bool false, MV.bool false, MV.bool false, MV.bool false, MV.bool false, MV.bool false, MV.bool false, MV.bool false, MV.bool false, MV.bool false, MV.bool false, MV.bool false, MV.bool false, MV.bool false, MV.bool false, MV.bool false, MV.bool false, MV.bool false, MV.bool false, MV.bool false, MV.bool false, MV.bool false, MV.bool false, MV.bool false, MV.bool false, MV.bool false, MV.bool false, MV.bool false, MV.bool false, MV.bool false, MV.bool false, MV.bool false, MV.bool false, MV.bool false, MV.bool false, MV.bool false, MV.bool false, MV.bool false, MV.bool false, MV.bool false, MV.bool false, MV.bool false, MV.bool false, MV.bool false, MV.bool false, MV.bool false, MV.bool false, MV.bool false, MV.bool false, MV.bool false, MV.bool false, MV.bool false, MV.bool false, MV.bool false, MV.bool false, MV.bool false, MV.bool false, MV.bool false, MV.bool false, MV.bool false, MV.bool false, MV.bool false, MV.bool false, MV.bool false, MV.bool false, MV.bool false, MV.bool false, MV.bool false, MV.bool false, MV.bool false, MV.bool false, MV.bool false, MV.bool false, MV.bool false, MV.bool false, MV.bool false, MV.bool false, MV.bool false, MV.bool false, MV.bool false, MV.bool false, MV.bool false, MV.bool false, MV.bool false, MV.bool false, MV.bool false, MV.bool false, MV.bool false, MV.bool false, MV.bool false, MV.bool false, MV.bool false, MV.bool false, MV.bool false, MV.bool false, MV.bool false, MV.bool false, MV.bool false, MV.bool false, MV.bool false, MV.bool false, MV.bool false, MV.bool false, MV.bool false, MV.bool false, MV.bool false, MV.bool false, MV.bool false, MV.bool false, MV.bool false, MV.bool false, MV.bool false, MV.bool false, MV.bool false, MV.bool false, MV.bool false, MV.bool false, MV.bool false, MV.bool false, MV.bool false, MV.bool false, MV.bool false, MV.bool false, MV.bool false, MV.bool false, MV.bool false, MV.bool false, MV.bool false, MV.bool false, MV.bool false, MV.bool false, MV.bool false, MV.bool false, MV.bool false, MV.bool false, MV.bool false, MV.bool false, MV.bool false, MV.bool false, MV.bool false, MV.bool false, MV.bool false, MV.bool false, MV.bool false, MV.bool false, MV.bool false, MV.bool false, MV.bool false, MV.bool false, MV.bool false, MV.bool false, MV.bool false, MV.bool false, MV.bool false, MV.bool false, MV.bool false, MV.bool false, MV.bool false, MV.bool false, MV.bool false, MV.bool false, MV.bool false, MV.bool false, MV.bool false, MV.bool false, MV.bool false, MV.bool false, MV.bool false, MV.bool false, MV.bool false, MV.bool false, MV.bool false, MV.bool false, MV.bool false, MV.bool false, MV.bool false, MV.bool false, MV.bool false, MV.bool false, MV.bool false, MV.bool false, MV.bool false, MV.bool false, MV.bool false, MV.bool false, MV.bool false, MV.bool false, MV.bool false, MV.bool false, MV.bool false, MV.bool false, MV.bool false, MV.bool false, MV.bool false, MV.bool false, MV.bool false, MV.bool false, MV.bool false, MV.bool false, MV.bool false, MV.bool false, MV.bool false, MV.bool false, MV.bool false, MV.bool false, MV.bool false, MV.bool false, MV.bool false, MV.bool false, MV.bool false, MV.bool false, MV.bool false, MV.bool false, MV.bool false, MV.bool false, MV.bool false, MV.bool false, MV.bool false, MV.bool false, MV.bool false, MV.bool false, MV.bool false, MV.bool false, MV.bool false, MV.bool false, MV.bool false, MV.bool false, MV.bool false, MV.bool false, MV.bool false, MV.bool false, MV.bool false, MV.bool false, MV.bool false, MV.bool false, MV.bool false, MV.bool false, MV.bool false, MV.bool false, MV.bool false, MV.bool false, MV.bool false, MV.bool false, MV.bool false, MV.bool false, MV.bool false, MV.bool false, MV.bool false, MV.bool false] } := by kernel_rfl
theorem ti199 : tiOf Tryz.prog 199 = some { kd := TK.arr 256 4, size := 256, bytes := 256, zero := [MV.bool false, MV.bool false, MV.bool false, MV.bool false, MV.bool false, MV.bool false, MV.bool false, MV.bool false, MV.bool false, MV.bool false, MV.bool false, MV.bool false, MV.bool false, MV.bool false, MV.bool false, MV.bool false, MV.bool false, MV.bool false, MV.bool false, MV.bool false, MV.bool false, MV.bool false, MV.bool false, MV.bool false, MV.bool false, MV.bool false, MV.bool false, MV.bool false, MV.bool false, MV.bool false, MV.bool false, MV.bool false, MV.bool false, MV.bool false, MV.bool false, MV.bool false, MV.bool false, MV.bool false, MV.bool false, MV.bool false, MV.bool false, MV.bool false, MV.bool false, MV.bool false, MV.bool false, MV.bool false, MV.bool false, MV.bool false, MV.bool false, MV.bool false, MV.bool false, MV.bool false, MV.bool false, MV.bool false, MV.bool false, MV.bool false, MV.bool false, MV.bool false, MV.bool false, MV.bool false, MV.bool false, MV.bool false, MV.bool false, MV.bool false, MV.bool false, MV.bool false, MV.bool false, MV.bool false, MV.bool false, MV.bool false, MV.bool false, MV.bool false, MV.bool false, MV.bool false, MV.bool false, MV.bool false, MV.bool false, MV.bool false, MV.bool false, MV.bool false, MV.bool false, MV.bool false, MV.bool false, MV.bool false, MV.bool false, MV.bool false, MV.bool false, MV.bool false, MV.bool false, MV.bool false, MV.bool false, MV.bool false, MV.bool false, MV.bool false, MV.bool false, MV.bool false, MV.bool false, MV.bool false, MV.bool false, MV.bool false, MV.bool false, MV.bool false, MV.bool false, MV.bool false, MV.bool false, MV.bool false, MV.bool false, MV.bool false, MV.bool false, MV.bool false, MV.bool false, MV.bool false, MV.bool false, MV.bool false, MV.bool false, MV.bool false, MV.bool false, MV.bool false, MV.bool false, MV.bool false, MV.bool false, MV.bool false, MV.bool false, MV.bool false, MV.bool false, MV.bool false, MV.bool false, MV.bool false, MV.bool false, MV.bool false, MV.bool false, MV.bool false, MV.bool false, MV.bool false, MV.bool false, MV.bool false, MV.bool false, MV.bool false, MV.bool false, MV.bool false, MV.bool false, MV.bool false, MV.bool false, MV.bool false, MV.bool false, MV.bool false, MV.bool false, MV.bool false, MV.bool false, MV.bool false, MV.bool false, MV.bool false, MV.bool false, MV.bool false, MV.bool false, MV.bool false, MV.bool false, MV.bool false, MV.bool false, MV.bool false, MV.bool false, MV.bool false, MV.bool false, MV.bool false, MV.bool false, MV.bool false, MV.bool false, MV.bool false, MV.bool false, MV.bool false, MV.bool false, MV.bool false, MV.bool false, MV.bool false, MV.bool false, MV.bool false, MV.bool false, MV.bool false, MV.bool false, MV.bool false, MV.bool false, MV.bool false, MV.bool false, MV.bool false, MV.bool false, MV.bool false, MV.bool false, MV.bool false, MV.bool false, MV.bool false, MV.bool false, MV.bool false, MV.bool false, MV.bool false, MV.bool false, MV.bool false, MV.bool false, MV.bool false, MV.bool false, MV.bool false, MV.bool false, MV.bool false, MV.bool false, MV.bool false, MV.bool false, MV.bool false, MV.bool false, MV.bool false, MV.bool false, MV.bool false, MV.bool false, MV.bool false, MV.bool false, MV.bool false, MV.bool false, MV.bool false, MV.bool false, MV.bool false, MV.bool false, MV.bool false, MV.bool false, MV.bool false, MV.bool false, MV.bool false, MV.bool false, MV.bool false, MV.bool false, MV.bool false, MV.bool false, MV.bool false, MV.bool false, MV.bool false, MV.bool false, MV.bool false, MV.bool false, MV.bool false, MV.bool false, MV.bool false, MV.bool false, MV.bool false, MV.bool false, MV.bool false, MV.bool false, MV.bool false, MV.bool false, MV.bool false, MV.bool false, MV.bool false, MV.bool false, MV.bool false, MV.bool false, MV.bool false, MV.bool false, MV.bool false, MV.bool false, MV.bool false] } := by kernel_rfl
theorem ti201 : tiOf Tryz.prog 201 = some { kd := TK.func, size := 1, bytes := 8, zero := [MV.nilfn] } := by kernel_rfl
theorem ti202 : tiOf Tryz.prog 202 = some { kd := TK.func, size := 1, bytes := 8, zero := [MV.nilfn] } := by kernel_rfl
theorem ti203 : tiOf Tryz.prog 203 = some { kd := TK.ptr 199, size := 1, bytes := 8, zero := [MV.nilptr] } := by kernel_rfl
theorem ti204 : tiOf Tryz.prog 204 = some { kd := TK.func, size := 1, bytes := 8, zero := [MV.nilfn] } := by kernel_rfl
theorem ti206 : tiOf Tryz.prog 206 = some { kd := TK.func, size := 1, bytes := 8, zero := [MV.nilfn] } := by kernel_rfl
theorem ti207 : tiOf Tryz.prog 207 = some { kd := TK.func, size := 1, bytes := 8, zero := [MV.nilfn] } := by kernel_rfl
theorem ti208 : tiOf Tryz.prog 208 = some { kd := TK.arr 24 5, size := 24, bytes := 24, zero := [MV.int IntKind.u8 0, MV.int IntKind.u8 0, MV.int IntKind.u8 0, MV.int IntKind.u8 0, MV.int IntKind.u8 0, MV.int IntKind.u8 0, MV.int IntKind.u8 0, MV.int IntKind.u8 0, MV.int IntKind.u8 0, MV.int IntKind.u8 0, MV.int IntKind.u8 0, MV.int IntKind.u8 0, MV.int IntKind.u8 0, MV.int IntKind.u8 0, MV.int IntKind.u8 0, MV.int IntKind.u8 0, MV.int IntKind.u8 0, MV.int IntKind.u8 0, MV.int IntKind.u8 0, MV.int IntKind.u8 0, MV.int IntKind.u8 0, MV.int IntKind.u8 0, MV.int IntKind.u8 0, MV.int IntKind.u8 0] } := by kernel_rfl
theorem ti209 : tiOf Tryz.prog 209 = some { kd := TK.func, size := 1, bytes := 8, zero := [MV.nilfn] } := by kernel_rfl
theorem ti211 : tiOf Tryz.prog 211 = some { kd := TK.func, size := 1, bytes := 8, zero := [MV.nilfn] } := by kernel_rfl
theorem ti212 : tiOf Tryz.prog 212 = some { kd := TK.int IntKind.u64, size := 1, bytes := 8, zero := [MV.int IntKind.u64 0] } := by kernel_rfl
theorem ti213 : tiOf Tryz.prog 213 = some { kd := TK.func, size := 1, bytes := 8, zero := [MV.nilfn] } := by kernel_rfl
theorem ti214 : tiOf Tryz.prog 214 = some { kd := TK.func, size := 1, bytes := 8, zero := [MV.nilfn] } := by kernel_rfl
theorem ti215 : tiOf Tryz.prog 215 = some { kd := TK.func, size := 1, bytes := 8, zero := [MV.nilfn] } := by kernel_rfl
theorem ti216 : tiOf Tryz.prog 216 = some { kd := TK.ptr 3, size := 1, bytes := 8, zero := [MV.nilptr] } := by kernel_rfl
theorem ti217 : tiOf Tryz.prog 217 = some { kd := TK.func, size := 1, bytes := 8, zero := [MV.nilfn] } := by kernel_rfl
theorem ti218 : tiOf Tryz.prog 218 = some { kd := TK.slice 221, size := 1, bytes := 24, zero := [MV.nil] } := by kernel_rfl
theorem ti219 : tiOf Tryz.prog 219 = some { kd := TK.func, size := 1, bytes := 8, zero := [MV.nilfn] } := by kernel_rfl
theorem ti220 : tiOf Tryz.prog 220 = some { kd := TK.slice 149, size := 1, bytes := 24, zero := [MV.nil] } := by kernel_rfl
theorem ti221 : tiOf Tryz.prog 221 = some { kd := TK.slice 149, size := 1, bytes := 24, zero := [MV.nil] } := by kernel_rfl
theorem ti222 : tiOf Tryz.prog 222 = some { kd := TK.func, size := 1, bytes := 8, zero := [MV.nilfn] } := by kernel_rfl
theorem ti223 : tiOf Tryz.prog 223 = some { kd := TK.func, size := 1, bytes := 8, zero := [MV.nilfn] } := by kernel_rfl
theorem ti224 : tiOf Tryz.prog 224 = some { kd := TK.func, size := 1, bytes := 8, zero := [MV.nilfn] } := by kernel_rfl
theorem ti226 : tiOf Tryz.prog 226 = some { kd := TK.func, size := 1, bytes := 8, zero := [MV.nilfn] } := by kernel_rfl
theorem ti228 : tiOf Tryz.prog 228 = some { kd := TK.func, size := 1, bytes := 8, zero := [MV.nilfn] } := by kernel_rfl
theorem ti229 : tiOf Tryz.prog 229 = some { kd := TK.func, size := 1, bytes := 8, zero := [MV.nilfn] } := by kernel_rfl
theorem ti230 : tiOf Tryz.prog 230 = some { kd := TK.strct [(0, 5), (1, 5)], size := 2, bytes := 2, zero := [MV.int IntKind.u8 0, MV.int IntKind.u8 0] } := by kernel_rfl
theorem ti231 : tiOf Tryz.prog 231 = some { kd := TK.strct [(0, 5), (1, 5)], size := 2, bytes := 2, zero := [MV.int IntKind.u8 0, MV.int IntKind.u8 0] } := by kernel_rfl
theorem ti232 : tiOf Tryz.prog 232 = some { kd := TK.arr 16 231, size := 32, bytes := 32, zero := [MV.int IntKind.u8 0, MV.int IntKind.u8 0, MV.int IntKind.u8 0, MV.int IntKind.u8 0, MV.int IntKind.u8 0, MV.int IntKind.u8 0, MV.int IntKind.u8 0, MV.int IntKind.u8 0, MV.int IntKind.u8 0, MV.int IntKind.u8 0, MV.int IntKind.u8 0, MV.int IntKind.u8 0, MV.int IntKind.u8 0, MV.int IntKind.u8 0, MV.int IntKind.u8 0, MV.int IntKind.u8 0, MV.int IntKind.u8 0, MV.int IntKind.u8 0, MV.int IntKind.u8 0, MV.int IntKind.u8 0, MV.int IntKind.u8 0, MV.int IntKind.u8 0, MV.int IntKind.u8 0, MV.int IntKind.u8 0, MV.int IntKind.u8 0, MV.int IntKind.u8 0, MV.int IntKind.u8 0, MV.int IntKind.u8 0, MV.int IntKind.u8 0, MV.int IntKind.u8 0, MV.int IntKind.u8 0, MV.int IntKind.u8 0] } := by kernel_rfl
theorem ti233 : tiOf Tryz.prog 233 = some { kd := TK.func, size := 1, bytes := 8, zero := [MV.nilfn] } := by kernel_rfl
theorem ti234 : tiOf Tryz.prog 234 = some { kd := TK.slice 240, size := 1, bytes := 24, zero := [MV.nil] } := by kernel_rfl
theorem ti235 : tiOf Tryz.prog 235 = some { kd := TK.slice 243, size := 1, bytes := 24, zero := [MV.nil] } := by kernel_rfl
theorem ti236 : tiOf Tryz.prog 236 = some { kd := TK.strct [(0, 234), (1, 235), (2, 3)], size := 3, bytes := 56, zero := [MV.nil, MV.nil, MV.int IntKind.i64 0] } := by kernel_rfl
theorem ti237 : tiOf Tryz.prog 237 = some { kd := TK.strct [(0, 234), (1, 235), (2, 3)], size := 3, bytes := 56, zero := [MV.nil, MV.nil, MV.int IntKind.i64 0] } := by kernel_rfl
theorem ti238 : tiOf Tryz.prog 238 = some { kd := TK.int IntKind.u16, size := 1, bytes := 2, zero := [MV.int IntKind.u16 0] } := by kernel_rfl
theorem ti239 : tiOf Tryz.prog 239 = some { kd := TK.strct [(0, 238), (1, 238), (2, 238)], size := 3, bytes := 6, zero := [MV.int IntKind.u16 0, MV.int IntKind.u16 0, MV.int IntKind.u16 0] } := by kernel_rfl
theorem ti240 : tiOf Tryz.prog 240 = some { kd := TK.strct [(0, 238), (1, 238), (2, 238)], size := 3, bytes := 6, zero := [MV.int IntKind.u16 0, MV.int IntKind.u16 0, MV.int IntKind.u16 0] } := by kernel_rfl
theorem ti241 : tiOf Tryz.prog 241 = some { kd := TK.func, size := 1, bytes := 8, zero := [MV.nilfn] } := by kernel_rfl
theorem ti242 : tiOf Tryz.prog 242 = some { kd := TK.strct [(0, 149), (1, 149), (2, 149)], size := 3, bytes := 12, zero := [MV.int IntKind.u32 0, MV.int IntKind.u32 0, MV.int IntKind.u32 0] } := by kernel_rfl
theorem ti243 : tiOf Tryz.prog 243 = some { kd := TK.strct [(0, 149), (1, 149), (2, 149)], size := 3, bytes := 12, zero := [MV.int IntKind.u32 0, MV.int IntKind.u32 0, MV.int IntKind.u32 0] } := by kernel_rfl
theorem ti244 : tiOf Tryz.prog 244 = some { kd := TK.func, size := 1, bytes := 8, zero := [MV.nilfn] } := by kernel_rfl
theorem ti245 : tiOf Tryz.prog 245 = some { kd := TK.func, size := 1, bytes := 8, zero := [MV.nilfn] } := by kernel_rfl
theorem ti246 : tiOf Tryz.prog 246 = some { kd := TK.arr 20 152, size := 20, bytes := 160, zero := [MV.int IntKind.u64 0, MV.int IntKind.u64 0, MV.int IntKind.u64 0, MV.int IntKind.u64 0, MV.int IntKind.u64 0, MV.int IntKind.u64 0, MV.int IntKind.u64 0, MV.int IntKind.u64 0, MV.int IntKind.u64 0, MV.int IntKind.u64 0, MV.int IntKind.u64 0, MV.int IntKind.u64 0, MV.int IntKind.u64 0, MV.int IntKind.u64 0, MV.int IntKind.u64 0, MV.int IntKind.u64 0, MV.int IntKind.u64 0, MV.int IntKind.u64 0, MV.int IntKind.u64 0, MV.int IntKind.u64 0] } := by kernel_rfl
theorem ti247 : tiOf Tryz.prog 247 = some { kd := TK.arr 65 5, size := 65, bytes := 65, zero := [MV.int IntKind.u8 0, MV.int IntKind.u8 0, MV.int IntKind.u8 0, MV.int IntKind.u8 0, MV.int IntKind.u8 0, MV.int IntKind.u8 0, MV.int IntKind.u8 0, MV.int IntKind.u8 0, MV.int IntKind.u8 0, MV.int IntKind.u8 0, MV.int IntKind.u8 0, MV.int IntKind.u8 0, MV.int IntKind.u8 0, MV.int IntKind.u8 0, MV.int IntKind.u8 0, MV.int IntKind.u8 0, MV.int IntKind.u8 0, MV.int IntKind.u8 0, MV.int IntKind.u8 0, MV.int IntKind.u8 0, MV.int IntKind.u8 0, MV.int IntKind.u8 0, MV.int IntKind.u8 0, MV.int IntKind.u8 0, MV.int IntKind.u8 0, MV.int IntKind.u8 0, MV.int IntKind.u8 0, MV.int IntKind.u8 0, MV.int IntKind.u8 0, MV.int IntKind.u8 0, MV.int IntKind.u8 0, MV.int IntKind.u8 0, MV.int IntKind.u8 0, MV.int IntKind.u8 0, MV.int IntKind.u8 0, MV.int IntKind.u8 0, MV.int IntKind.u8 0, MV.int IntKind.u8 0, MV.int IntKind.u8 0, MV.int IntKind.u8 0, MV.int IntKind.u8 0, MV.int IntKind.u8 0, MV.int IntKind.u8 0, MV.int IntKind.u8 0, MV.int IntKind.u8 0, MV.int IntKind.u8 0, MV.int IntKind.u8 0, MV.int IntKind.u8 0, MV.int IntKind.u8 0, MV.int IntKind.u8 0, MV.int IntKind.u8 0, MV.int IntKind.u8 0, MV.int IntKind.u8 0, MV.int IntKind.u8 0, MV.int IntKind.u8 0, MV.int IntKind.u8 0, MV.int IntKind.u8 0, MV.int IntKind.u8 0, MV.int IntKind.u8 0, MV.int IntKind.u8 0, MV.int IntKind.u8 0, MV.int IntKind.u8 0, MV.int IntKind.u8 0, MV.int IntKind.u8 0, MV.int IntKind.u8 0] } := by kernel_rfl
theorem ti248 : tiOf Tryz.prog 248 = some { kd := TK.ptr 212, size := 1, bytes := 8, zero := [MV.nilptr] } := by kernel_rfl
theorem ti250 : tiOf Tryz.prog 250 = some { kd := TK.func, size := 1, bytes := 8, zero := [MV.nilfn] } := by kernel_rfl
theorem ti251 : tiOf Tryz.prog 251 = some { kd := TK.func, size := 1, bytes := 8, zero := [MV.nilfn] } := by kernel_rfl
theorem ti252 : tiOf Tryz.prog 252 = some { kd := TK.func, size := 1, bytes := 8, zero := [MV.nilfn] } := by kernel_rfl
theorem ti253 : tiOf Tryz.prog 253 = some { kd := TK.func, size := 1, bytes := 8, zero := [MV.nilfn] } := by kernel_rfl
theorem ti254 : tiOf Tryz.prog 254 = some { kd := TK.ptr 240, size := 1, bytes := 8, zero := [MV.nilptr] } := by kernel_rfl
theorem ti255 : tiOf Tryz.prog 255 = some { kd := TK.ptr 243, size := 1, bytes := 8, zero := [MV.nilptr] } := by kernel_rfl
theorem ti256 : tiOf Tryz.prog 256 = some { kd := TK.func, size := 1, bytes := 8, zero := [MV.nilfn] } := by kernel_rfl
theorem ti257 : tiOf Tryz.prog 257 = some { kd := TK.func, size := 1, bytes := 8, zero := [MV.nilfn] } := by kernel_rfl
theorem ti258 : tiOf Tryz.prog 258 = some { kd := TK.func, size := 1, bytes := 8, zero := [MV.nilfn] } := by kernel_rfl
theorem ti259 : tiOf Tryz.prog 259 = some { kd := TK.arr 32 5, size := 32, bytes := 32, zero := [MV.int IntKind.u8 0, MV.int IntKind.u8 0, MV.int IntKind.u8 0, MV.int IntKind.u8 0, MV.int IntKind.u8 0, MV.int IntKind.u8 0, MV.int IntKind.u8 0, MV.int IntKind.u8 0, MV.int IntKind.u8 0, MV.int IntKind.u8 0, MV.int IntKind.u8 0, MV.int IntKind.u8 0, MV.int IntKind.u8 0, MV.int IntKind.u8 0, MV.int IntKind.u8 0, MV.int IntKind.u8 0, MV.int IntKind.u8 0, MV.int IntKind.u8 0, MV.int IntKind.u8 0, MV.int IntKind.u8 0, MV.int IntKind.u8 0, MV.int IntKind.u8 0, MV.int IntKind.u8 0, MV.int IntKind.u8 0, MV.int IntKind.u8 0, MV.int IntKind.u8 0, MV.int IntKind.u8 0, MV.int IntKind.u8 0, MV.int IntKind.u8 0, MV.int IntKind.u8 0, MV.int IntKind.u8 0, MV.int IntKind.u8 0] } := by kernel_rfl
theorem ti260 : tiOf Tryz.prog 260 = some { kd := TK.arr 64 5, size := 64, bytes := 64, zero := [MV.int IntKind.u8 0, MV.int IntKind.u8 0, MV.int IntKind.u8 0, MV.int IntKind.u8 0, MV.int IntKind.u8 0, MV.int IntKind.u8 0, MV.int IntKind.u8 0, MV.int IntKind.u8 0, MV.int IntKind.u8 0, MV.int IntKind.u8 0, MV.int IntKind.u8 0, MV.int IntKind.u8 0, MV.int IntKind.u8 0, MV.int IntKind.u8 0, MV.int IntKind.u8 0, MV.int IntKind.u8 0, MV.int IntKind.u8 0, MV.int IntKind.u8 0, MV.int IntKind.u8 0, MV.int IntKind.u8 0, MV.int IntKind.u8 0, MV.int IntKind.u8 0, MV.int IntKind.u8 0, MV.int IntKind.u8 0, MV.int IntKind.u8 0, MV.int IntKind.u8 0, MV.int IntKind.u8 0, MV.int IntKind.u8 0, MV.int IntKind.u8 0, MV.int IntKind.u8 0, MV.int IntKind.u8 0, MV.int IntKind.u8 0, MV.int IntKind.u8 0, MV.int IntKind.u8 0, MV.int IntKind.u8 0, MV.int IntKind.u8 0, MV.int IntKind.u8 0, MV.int IntKind.u8 0, MV.int IntKind.u8 0, MV.int IntKind.u8 0, MV.int IntKind.u8 0, MV.int IntKind.u8 0, MV.int IntKind.u8 0, MV.int IntKind.u8 0, MV.int IntKind.u8 0, MV.int IntKind.u8 0, MV.int IntKind.u8 0, MV.int IntKind.u8 0, MV.int IntKind.u8 0, MV.int IntKind.u8 0, MV.int IntKind.u8 0, MV.int IntKind.u8 0, MV.int IntKind.u8 0, MV.int IntKind.u8 0, MV.int IntKind.u8 0, MV.int IntKind.u8 0, MV.int IntKind.u8 0, MV.int IntKind.u8 0, MV.int IntKind.u8 0, MV.int IntKind.u8 0, MV.int IntKind.u8 0, MV.int IntKind.u8 0, MV.int IntKind.u8 0, MV.int IntKind.u8 0] } := by kernel_rfl
theorem ti261 : tiOf Tryz.prog 261 = some { kd := TK.ptr 275, size := 1, bytes := 8, zero := [MV.nilptr] } := by kernel_rfl
theorem ti262 : tiOf Tryz.prog 262 = some { kd := TK.strct [(0, 17), (1, 17), (2, 17), (3, 9)], size := 4, bytes := 40, zero := [MV.nilptr, MV.nilptr, MV.nilptr, MV.str ByteArray.empty] } := by kernel_rfl
theorem ti263 : tiOf Tryz.prog 263 = some { kd := TK.strct [(0, 17), (1, 17), (2, 17), (3, 9)], size := 4, bytes := 40, zero := [MV.nilptr, MV.nilptr, MV.nilptr, MV.str ByteArray.empty] } := by kernel_rfl
theorem ti264 : tiOf Tryz.prog 264 = some { kd := TK.arr 0 16, size := 0, bytes := 0, zero := [] } := by kernel_rfl
theorem ti265 : tiOf Tryz.prog 265 = some { kd := TK.strct [(0, 264)], size := 0, bytes := 0, zero := [] } := by kernel_rfl
theorem ti266 : tiOf Tryz.prog 266 = some { kd := TK.strct [(0, 264)], size := 0, bytes := 0, zero := [] } := by kernel_rfl
theorem ti267 : tiOf Tryz.prog 267 = some { kd := TK.int IntKind.u8, size := 1, bytes := 1, zero := [MV.int IntKind.u8 0] } := by kernel_rfl
theorem ti268 : tiOf Tryz.prog 268 = some { kd := TK.int IntKind.u8, size := 1, bytes := 1, zero := [MV.int IntKind.u8 0] } := by kernel_rfl
theorem ti269 : tiOf Tryz.prog 269 = some { kd := TK.func, size := 1, bytes := 8, zero := [MV.nilfn] } := by kernel_rfl
theorem ti270 : tiOf Tryz.prog 270 = some { kd := TK.int IntKind.i32, size := 1, bytes := 4, zero := [MV.int IntKind.i32 0] } := by kernel_rfl
theorem ti271 : tiOf Tryz.prog 271 = some { kd := TK.int IntKind.i32, size := 1, bytes := 4, zero := [MV.int IntKind.i32 0] } := by kernel_rfl
theorem ti272 : tiOf Tryz.prog 272 = some { kd := TK.strct [(0, 12), (1, 12), (2, 149), (3, 267), (4, 5), (5, 5), (6, 268), (7, 269), (8, 161), (9, 270), (10, 271)], size := 11, bytes := 48, zero := [MV.int IntKind.u64 0, MV.int IntKind.u64 0, MV.int IntKind.u32 0, MV.int IntKind.u8 0, MV.int IntKind.u8 0, MV.int IntKind.u8 0, MV.int IntKind.u8 0, MV.nilfn, MV.nilptr, MV.int IntKind.i32 0, MV.int IntKind.i32 0] } := by kernel_rfl
theorem ti273 : tiOf Tryz.prog 273 = some { kd := TK.strct [(0, 12), (1, 12), (2, 149), (3, 267), (4, 5), (5, 5), (6, 268), (7, 269), (8, 161), (9, 270), (10, 271)], size := 11, bytes := 48, zero := [MV.int IntKind.u64 0, MV.int IntKind.u64 0, MV.int IntKind.u32 0, MV.int IntKind.u8 0, MV.int IntKind.u8 0, MV.int IntKind.u8 0, MV.int IntKind.u8 0, MV.nilfn, MV.nilptr, MV.int IntKind.i32 0, MV.int IntKind.i32 0] } := by kernel_rfl
theorem ti274 : tiOf Tryz.prog 274 = some { kd := TK.strct [(0, 9)], size := 1, bytes := 16, zero := [MV.str ByteArray.empty] } := by kernel_rfl
theorem ti275 : tiOf Tryz.prog 275 = some { kd := TK.strct [(0, 9)], size := 1, bytes := 16, zero := [MV.str ByteArray.empty] } := by kernel_rfl
theorem eqt7 : eqTy Tryz.prog 7 = some [TK.int IntKind.i64, TK.int IntKind.i64, TK.bool, TK.int IntKind.u8] := by kernel_rfl
theorem eqt8 : eqTy Tryz.prog 8 = some [TK.int IntKind.i64, TK.int IntKind.i64, TK.bool, TK.int IntKind.u8] := by kernel_rfl
theorem eqt77 : eqTy Tryz.prog 77 = some [TK.int IntKind.i64, TK.str, TK.str, TK.str, TK.str] := by kernel_rfl
theorem eqt78 : eqTy Tryz.prog 78 = some [TK.int IntKind.i64, TK.str, TK.str, TK.str, TK.str] := by kernel_rfl
theorem eqt111 : eqTy Tryz.prog 111 = some [TK.int IntKind.i64, TK.int IntKind.i64, TK.int IntKind.i64] := by kernel_rfl
theorem eqt112 : eqTy Tryz.prog 112 = some [TK.int IntKind.i64, TK.int IntKind.i64, TK.int IntKind.i64] := by kernel_rfl
theorem eqt113 : eqTy Tryz.prog 113 = some [TK.int IntKind.i64, TK.int IntKind.i64] := by kernel_rfl
theorem eqt114 : eqTy Tryz.prog 114 = some [TK.int IntKind.i64, TK.int IntKind.i64] := by kernel_rfl
theorem eqt115 : eqTy Tryz.prog 115 = some [TK.str, TK.str, TK.int IntKind.i64, TK.str, TK.int IntKind.i64, TK.str, TK.str] := by kernel_rfl
theorem eqt116 : eqTy Tryz.prog 116 = some [TK.str, TK.str, TK.int IntKind.i64, TK.str, TK.int IntKind.i64, TK.str, TK.str] := by kernel_rfl
theorem eqt193 : eqTy Tryz.prog 193 = some [TK.int IntKind.i64, TK.int IntKind.i64] := by kernel_rfl
theorem eqt194 : eqTy Tryz.prog 194 = some [TK.int IntKind.i64, TK.int IntKind.i64] := by kernel_rfl
theorem eqt230 : eqTy Tryz.prog 230 = some [TK.int IntKind.u8, TK.int IntKind.u8] := by kernel_rfl
theorem eqt231 : eqTy Tryz.prog 231 = some [TK.int IntKind.u8, TK.int IntKind.u8] := by kernel_rfl
theorem eqt239 : eqTy Tryz.prog 239 = some [TK.int IntKind.u16, TK.int IntKind.u16, TK.int IntKind.u16] := by kernel_rfl
theorem eqt240 : eqTy Tryz.prog 240 = some [TK.int IntKind.u16, TK.int IntKind.u16, TK.int IntKind.u16] := by kernel_rfl
theorem eqt242 : eqTy Tryz.prog 242 = some [TK.int IntKind.u32, TK.int IntKind.u32, TK.int IntKind.u32] := by kernel_rfl
theorem eqt243 : eqTy Tryz.prog 243 = some [TK.int IntKind.u32, TK.int IntKind.u32, TK.int IntKind.u32] := by kernel_rfl
theorem eqt274 : eqTy Tryz.prog 274 = some [TK.str] := by kernel_rfl
theorem eqt275 : eqTy Tryz.prog 275 = some [TK.str] := by kernel_rfl
theorem hmix : Tryz.prog.follows .mixedOrders = true := by kernel_rfl
end Go.Pv
