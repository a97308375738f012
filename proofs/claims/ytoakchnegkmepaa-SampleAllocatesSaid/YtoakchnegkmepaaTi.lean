import Derived.Test.YtoakchnegkmepaaHB
import Derived.Test.YtoakchnegkmepaaProg
set_option maxRecDepth 100000
namespace Go.Pv
open Go Go.Proofs
theorem ti1 : tiOf Try.prog 1 = some { kd := TK.func, size := 1, bytes := 8, zero := [MV.nilfn] } := by kernel_rfl
theorem ti2 : tiOf Try.prog 2 = some { kd := TK.int IntKind.i64, size := 1, bytes := 8, zero := [MV.int IntKind.i64 0] } := by kernel_rfl
theorem ti3 : tiOf Try.prog 3 = some { kd := TK.int IntKind.i64, size := 1, bytes := 8, zero := [MV.int IntKind.i64 0] } := by kernel_rfl
theorem ti4 : tiOf Try.prog 4 = some { kd := TK.bool, size := 1, bytes := 1, zero := [MV.bool false] } := by kernel_rfl
theorem ti5 : tiOf Try.prog 5 = some { kd := TK.int IntKind.u8, size := 1, bytes := 1, zero := [MV.int IntKind.u8 0] } := by kernel_rfl
theorem ti6 : tiOf Try.prog 6 = some { kd := TK.int IntKind.u8, size := 1, bytes := 1, zero := [MV.int IntKind.u8 0] } := by kernel_rfl
theorem ti7 : tiOf Try.prog 7 = some { kd := TK.strct [(0, 2), (1, 3), (2, 4), (3, 6)], size := 4, bytes := 24, zero := [MV.int IntKind.i64 0, MV.int IntKind.i64 0, MV.bool false, MV.int IntKind.u8 0] } := by kernel_rfl
theorem ti8 : tiOf Try.prog 8 = some { kd := TK.strct [(0, 2), (1, 3), (2, 4), (3, 6)], size := 4, bytes := 24, zero := [MV.int IntKind.i64 0, MV.int IntKind.i64 0, MV.bool false, MV.int IntKind.u8 0] } := by kernel_rfl
theorem ti9 : tiOf Try.prog 9 = some { kd := TK.str, size := 1, bytes := 16, zero := [MV.str ByteArray.empty] } := by kernel_rfl
theorem ti10 : tiOf Try.prog 10 = some { kd := TK.str, size := 1, bytes := 16, zero := [MV.str ByteArray.empty] } := by kernel_rfl
theorem ti11 : tiOf Try.prog 11 = some { kd := TK.str, size := 1, bytes := 16, zero := [MV.str ByteArray.empty] } := by kernel_rfl
theorem ti12 : tiOf Try.prog 12 = some { kd := TK.int IntKind.u64, size := 1, bytes := 8, zero := [MV.int IntKind.u64 0] } := by kernel_rfl
theorem ti13 : tiOf Try.prog 13 = some { kd := TK.strct [(0, 9), (1, 12)], size := 2, bytes := 24, zero := [MV.str ByteArray.empty, MV.int IntKind.u64 0] } := by kernel_rfl
theorem ti14 : tiOf Try.prog 14 = some { kd := TK.strct [(0, 9), (1, 12)], size := 2, bytes := 24, zero := [MV.str ByteArray.empty, MV.int IntKind.u64 0] } := by kernel_rfl
theorem ti15 : tiOf Try.prog 15 = some { kd := TK.ptr 147, size := 1, bytes := 8, zero := [MV.nilptr] } := by kernel_rfl
theorem ti16 : tiOf Try.prog 16 = some { kd := TK.ptr 150, size := 1, bytes := 8, zero := [MV.nilptr] } := by kernel_rfl
theorem ti17 : tiOf Try.prog 17 = some { kd := TK.ptr 158, size := 1, bytes := 8, zero := [MV.nilptr] } := by kernel_rfl
theorem ti18 : tiOf Try.prog 18 = some { kd := TK.strct [(0, 17)], size := 1, bytes := 8, zero := [MV.nilptr] } := by kernel_rfl
theorem ti19 : tiOf Try.prog 19 = some { kd := TK.strct [(0, 17)], size := 1, bytes := 8, zero := [MV.nilptr] } := by kernel_rfl
theorem ti20 : tiOf Try.prog 20 = some { kd := TK.iface, size := 1, bytes := 16, zero := [MV.nilifc] } := by kernel_rfl
theorem ti21 : tiOf Try.prog 21 = some { kd := TK.int IntKind.i32, size := 1, bytes := 4, zero := [MV.int IntKind.i32 0] } := by kernel_rfl
theorem ti22 : tiOf Try.prog 22 = some { kd := TK.slice 3, size := 1, bytes := 24, zero := [MV.nil] } := by kernel_rfl
theorem ti23 : tiOf Try.prog 23 = some { kd := TK.ptr 25, size := 1, bytes := 8, zero := [MV.nilptr] } := by kernel_rfl
theorem ti24 : tiOf Try.prog 24 = some { kd := TK.strct [(0, 22), (1, 3)], size := 2, bytes := 32, zero := [MV.nil, MV.int IntKind.i64 0] } := by kernel_rfl
theorem ti25 : tiOf Try.prog 25 = some { kd := TK.strct [(0, 22), (1, 3)], size := 2, bytes := 32, zero := [MV.nil, MV.int IntKind.i64 0] } := by kernel_rfl
theorem ti26 : tiOf Try.prog 26 = some { kd := TK.strct [(0, 3), (1, 3), (2, 3)], size := 3, bytes := 24, zero := [MV.int IntKind.i64 0, MV.int IntKind.i64 0, MV.int IntKind.i64 0] } := by kernel_rfl
theorem ti27 : tiOf Try.prog 27 = some { kd := TK.strct [(0, 3), (1, 3), (2, 3)], size := 3, bytes := 24, zero := [MV.int IntKind.i64 0, MV.int IntKind.i64 0, MV.int IntKind.i64 0] } := by kernel_rfl
theorem ti28 : tiOf Try.prog 28 = some { kd := TK.func, size := 1, bytes := 8, zero := [MV.nilfn] } := by kernel_rfl
theorem ti29 : tiOf Try.prog 29 = some { kd := TK.strct [(0, 3), (1, 3)], size := 2, bytes := 16, zero := [MV.int IntKind.i64 0, MV.int IntKind.i64 0] } := by kernel_rfl
theorem ti30 : tiOf Try.prog 30 = some { kd := TK.strct [(0, 3), (1, 3)], size := 2, bytes := 16, zero := [MV.int IntKind.i64 0, MV.int IntKind.i64 0] } := by kernel_rfl
theorem ti31 : tiOf Try.prog 31 = some { kd := TK.func, size := 1, bytes := 8, zero := [MV.nilfn] } := by kernel_rfl
theorem ti32 : tiOf Try.prog 32 = some { kd := TK.int IntKind.i64, size := 1, bytes := 8, zero := [MV.int IntKind.i64 0] } := by kernel_rfl
theorem ti34 : tiOf Try.prog 34 = some { kd := TK.func, size := 1, bytes := 8, zero := [MV.nilfn] } := by kernel_rfl
theorem ti35 : tiOf Try.prog 35 = some { kd := TK.func, size := 1, bytes := 8, zero := [MV.nilfn] } := by kernel_rfl
theorem ti36 : tiOf Try.prog 36 = some { kd := TK.func, size := 1, bytes := 8, zero := [MV.nilfn] } := by kernel_rfl
theorem ti37 : tiOf Try.prog 37 = some { kd := TK.func, size := 1, bytes := 8, zero := [MV.nilfn] } := by kernel_rfl
theorem ti38 : tiOf Try.prog 38 = some { kd := TK.func, size := 1, bytes := 8, zero := [MV.nilfn] } := by kernel_rfl
theorem ti39 : tiOf Try.prog 39 = some { kd := TK.func, size := 1, bytes := 8, zero := [MV.nilfn] } := by kernel_rfl
theorem ti40 : tiOf Try.prog 40 = some { kd := TK.func, size := 1, bytes := 8, zero := [MV.nilfn] } := by kernel_rfl
theorem ti41 : tiOf Try.prog 41 = some { kd := TK.func, size := 1, bytes := 8, zero := [MV.nilfn] } := by kernel_rfl
theorem ti42 : tiOf Try.prog 42 = some { kd := TK.func, size := 1, bytes := 8, zero := [MV.nilfn] } := by kernel_rfl
theorem ti44 : tiOf Try.prog 44 = some { kd := TK.func, size := 1, bytes := 8, zero := [MV.nilfn] } := by kernel_rfl
theorem ti45 : tiOf Try.prog 45 = some { kd := TK.slice 27, size := 1, bytes := 24, zero := [MV.nil] } := by kernel_rfl
theorem ti47 : tiOf Try.prog 47 = some { kd := TK.func, size := 1, bytes := 8, zero := [MV.nilfn] } := by kernel_rfl
theorem ti48 : tiOf Try.prog 48 = some { kd := TK.func, size := 1, bytes := 8, zero := [MV.nilfn] } := by kernel_rfl
theorem ti49 : tiOf Try.prog 49 = some { kd := TK.func, size := 1, bytes := 8, zero := [MV.nilfn] } := by kernel_rfl
theorem ti50 : tiOf Try.prog 50 = some { kd := TK.strct [(0, 3), (1, 3), (2, 3), (3, 3)], size := 4, bytes := 32, zero := [MV.int IntKind.i64 0, MV.int IntKind.i64 0, MV.int IntKind.i64 0, MV.int IntKind.i64 0] } := by kernel_rfl
theorem ti51 : tiOf Try.prog 51 = some { kd := TK.strct [(0, 3), (1, 3), (2, 3), (3, 3)], size := 4, bytes := 32, zero := [MV.int IntKind.i64 0, MV.int IntKind.i64 0, MV.int IntKind.i64 0, MV.int IntKind.i64 0] } := by kernel_rfl
theorem ti52 : tiOf Try.prog 52 = some { kd := TK.func, size := 1, bytes := 8, zero := [MV.nilfn] } := by kernel_rfl
theorem ti53 : tiOf Try.prog 53 = some { kd := TK.func, size := 1, bytes := 8, zero := [MV.nilfn] } := by kernel_rfl
theorem ti54 : tiOf Try.prog 54 = some { kd := TK.func, size := 1, bytes := 8, zero := [MV.nilfn] } := by kernel_rfl
theorem ti55 : tiOf Try.prog 55 = some { kd := TK.func, size := 1, bytes := 8, zero := [MV.nilfn] } := by kernel_rfl
theorem ti56 : tiOf Try.prog 56 = some { kd := TK.func, size := 1, bytes := 8, zero := [MV.nilfn] } := by kernel_rfl
theorem ti57 : tiOf Try.prog 57 = some { kd := TK.func, size := 1, bytes := 8, zero := [MV.nilfn] } := by kernel_rfl
theorem ti58 : tiOf Try.prog 58 = some { kd := TK.func, size := 1, bytes := 8, zero := [MV.nilfn] } := by kernel_rfl
theorem ti59 : tiOf Try.prog 59 = some { kd := TK.func, size := 1, bytes := 8, zero := [MV.nilfn] } := by kernel_rfl
theorem ti60 : tiOf Try.prog 60 = some { kd := TK.func, size := 1, bytes := 8, zero := [MV.nilfn] } := by kernel_rfl
theorem ti61 : tiOf Try.prog 61 = some { kd := TK.func, size := 1, bytes := 8, zero := [MV.nilfn] } := by kernel_rfl
theorem ti62 : tiOf Try.prog 62 = some { kd := TK.strct [(0, 30), (2, 30), (4, 30)], size := 6, bytes := 48, zero := [MV.int IntKind.i64 0, MV.int IntKind.i64 0, MV.int IntKind.i64 0, MV.int IntKind.i64 0, MV.int IntKind.i64 0, MV.int IntKind.i64 0] } := by kernel_rfl
theorem ti63 : tiOf Try.prog 63 = some { kd := TK.strct [(0, 30), (2, 30), (4, 30)], size := 6, bytes := 48, zero := [MV.int IntKind.i64 0, MV.int IntKind.i64 0, MV.int IntKind.i64 0, MV.int IntKind.i64 0, MV.int IntKind.i64 0, MV.int IntKind.i64 0] } := by kernel_rfl
theorem ti65 : tiOf Try.prog 65 = some { kd := TK.func, size := 1, bytes := 8, zero := [MV.nilfn] } := by kernel_rfl
theorem ti66 : tiOf Try.prog 66 = some { kd := TK.func, size := 1, bytes := 8, zero := [MV.nilfn] } := by kernel_rfl
theorem ti67 : tiOf Try.prog 67 = some { kd := TK.func, size := 1, bytes := 8, zero := [MV.nilfn] } := by kernel_rfl
theorem ti68 : tiOf Try.prog 68 = some { kd := TK.func, size := 1, bytes := 8, zero := [MV.nilfn] } := by kernel_rfl
theorem ti69 : tiOf Try.prog 69 = some { kd := TK.slice 4, size := 1, bytes := 24, zero := [MV.nil] } := by kernel_rfl
theorem ti70 : tiOf Try.prog 70 = some { kd := TK.func, size := 1, bytes := 8, zero := [MV.nilfn] } := by kernel_rfl
theorem ti71 : tiOf Try.prog 71 = some { kd := TK.func, size := 1, bytes := 8, zero := [MV.nilfn] } := by kernel_rfl
theorem ti72 : tiOf Try.prog 72 = some { kd := TK.func, size := 1, bytes := 8, zero := [MV.nilfn] } := by kernel_rfl
theorem ti74 : tiOf Try.prog 74 = some { kd := TK.func, size := 1, bytes := 8, zero := [MV.nilfn] } := by kernel_rfl
theorem ti75 : tiOf Try.prog 75 = some { kd := TK.func, size := 1, bytes := 8, zero := [MV.nilfn] } := by kernel_rfl
theorem ti76 : tiOf Try.prog 76 = some { kd := TK.func, size := 1, bytes := 8, zero := [MV.nilfn] } := by kernel_rfl
theorem ti77 : tiOf Try.prog 77 = some { kd := TK.func, size := 1, bytes := 8, zero := [MV.nilfn] } := by kernel_rfl
theorem ti78 : tiOf Try.prog 78 = some { kd := TK.func, size := 1, bytes := 8, zero := [MV.nilfn] } := by kernel_rfl
theorem ti79 : tiOf Try.prog 79 = some { kd := TK.func, size := 1, bytes := 8, zero := [MV.nilfn] } := by kernel_rfl
theorem ti80 : tiOf Try.prog 80 = some { kd := TK.slice 69, size := 1, bytes := 24, zero := [MV.nil] } := by kernel_rfl
theorem ti81 : tiOf Try.prog 81 = some { kd := TK.func, size := 1, bytes := 8, zero := [MV.nilfn] } := by kernel_rfl
theorem ti82 : tiOf Try.prog 82 = some { kd := TK.strct [(0, 3), (1, 30)], size := 3, bytes := 24, zero := [MV.int IntKind.i64 0, MV.int IntKind.i64 0, MV.int IntKind.i64 0] } := by kernel_rfl
theorem ti83 : tiOf Try.prog 83 = some { kd := TK.strct [(0, 3), (1, 30)], size := 3, bytes := 24, zero := [MV.int IntKind.i64 0, MV.int IntKind.i64 0, MV.int IntKind.i64 0] } := by kernel_rfl
theorem ti84 : tiOf Try.prog 84 = some { kd := TK.func, size := 1, bytes := 8, zero := [MV.nilfn] } := by kernel_rfl
theorem ti85 : tiOf Try.prog 85 = some { kd := TK.func, size := 1, bytes := 8, zero := [MV.nilfn] } := by kernel_rfl
theorem ti86 : tiOf Try.prog 86 = some { kd := TK.func, size := 1, bytes := 8, zero := [MV.nilfn] } := by kernel_rfl
theorem ti87 : tiOf Try.prog 87 = some { kd := TK.func, size := 1, bytes := 8, zero := [MV.nilfn] } := by kernel_rfl
theorem ti88 : tiOf Try.prog 88 = some { kd := TK.func, size := 1, bytes := 8, zero := [MV.nilfn] } := by kernel_rfl
theorem ti89 : tiOf Try.prog 89 = some { kd := TK.func, size := 1, bytes := 8, zero := [MV.nilfn] } := by kernel_rfl
theorem ti90 : tiOf Try.prog 90 = some { kd := TK.func, size := 1, bytes := 8, zero := [MV.nilfn] } := by kernel_rfl
theorem ti91 : tiOf Try.prog 91 = some { kd := TK.slice 30, size := 1, bytes := 24, zero := [MV.nil] } := by kernel_rfl
theorem ti92 : tiOf Try.prog 92 = some { kd := TK.func, size := 1, bytes := 8, zero := [MV.nilfn] } := by kernel_rfl
theorem ti93 : tiOf Try.prog 93 = some { kd := TK.func, size := 1, bytes := 8, zero := [MV.nilfn] } := by kernel_rfl
theorem ti94 : tiOf Try.prog 94 = some { kd := TK.func, size := 1, bytes := 8, zero := [MV.nilfn] } := by kernel_rfl
theorem ti95 : tiOf Try.prog 95 = some { kd := TK.func, size := 1, bytes := 8, zero := [MV.nilfn] } := by kernel_rfl
theorem ti96 : tiOf Try.prog 96 = some { kd := TK.func, size := 1, bytes := 8, zero := [MV.nilfn] } := by kernel_rfl
theorem ti97 : tiOf Try.prog 97 = some { kd := TK.slice 32, size := 1, bytes := 24, zero := [MV.nil] } := by kernel_rfl
theorem ti98 : tiOf Try.prog 98 = some { kd := TK.func, size := 1, bytes := 8, zero := [MV.nilfn] } := by kernel_rfl
theorem ti99 : tiOf Try.prog 99 = some { kd := TK.func, size := 1, bytes := 8, zero := [MV.nilfn] } := by kernel_rfl
theorem ti100 : tiOf Try.prog 100 = some { kd := TK.func, size := 1, bytes := 8, zero := [MV.nilfn] } := by kernel_rfl
theorem ti101 : tiOf Try.prog 101 = some { kd := TK.func, size := 1, bytes := 8, zero := [MV.nilfn] } := by kernel_rfl
theorem ti102 : tiOf Try.prog 102 = some { kd := TK.func, size := 1, bytes := 8, zero := [MV.nilfn] } := by kernel_rfl
theorem ti103 : tiOf Try.prog 103 = some { kd := TK.func, size := 1, bytes := 8, zero := [MV.nilfn] } := by kernel_rfl
theorem ti104 : tiOf Try.prog 104 = some { kd := TK.func, size := 1, bytes := 8, zero := [MV.nilfn] } := by kernel_rfl
theorem ti105 : tiOf Try.prog 105 = some { kd := TK.func, size := 1, bytes := 8, zero := [MV.nilfn] } := by kernel_rfl
theorem ti106 : tiOf Try.prog 106 = some { kd := TK.func, size := 1, bytes := 8, zero := [MV.nilfn] } := by kernel_rfl
theorem ti107 : tiOf Try.prog 107 = some { kd := TK.func, size := 1, bytes := 8, zero := [MV.nilfn] } := by kernel_rfl
theorem ti108 : tiOf Try.prog 108 = some { kd := TK.func, size := 1, bytes := 8, zero := [MV.nilfn] } := by kernel_rfl
theorem ti109 : tiOf Try.prog 109 = some { kd := TK.func, size := 1, bytes := 8, zero := [MV.nilfn] } := by kernel_rfl
theorem ti110 : tiOf Try.prog 110 = some { kd := TK.func, size := 1, bytes := 8, zero := [MV.nilfn] } := by kernel_rfl
theorem ti111 : tiOf Try.prog 111 = some { kd := TK.func, size := 1, bytes := 8, zero := [MV.nilfn] } := by kernel_rfl
theorem ti112 : tiOf Try.prog 112 = some { kd := TK.slice 115, size := 1, bytes := 24, zero := [MV.nil] } := by kernel_rfl
theorem ti113 : tiOf Try.prog 113 = some { kd := TK.func, size := 1, bytes := 8, zero := [MV.nilfn] } := by kernel_rfl
theorem ti114 : tiOf Try.prog 114 = some { kd := TK.slice 132, size := 1, bytes := 24, zero := [MV.nil] } := by kernel_rfl
theorem ti115 : tiOf Try.prog 115 = some { kd := TK.slice 132, size := 1, bytes := 24, zero := [MV.nil] } := by kernel_rfl
theorem ti116 : tiOf Try.prog 116 = some { kd := TK.func, size := 1, bytes := 8, zero := [MV.nilfn] } := by kernel_rfl
theorem ti117 : tiOf Try.prog 117 = some { kd := TK.func, size := 1, bytes := 8, zero := [MV.nilfn] } := by kernel_rfl
theorem ti118 : tiOf Try.prog 118 = some { kd := TK.func, size := 1, bytes := 8, zero := [MV.nilfn] } := by kernel_rfl
theorem ti119 : tiOf Try.prog 119 = some { kd := TK.func, size := 1, bytes := 8, zero := [MV.nilfn] } := by kernel_rfl
theorem ti120 : tiOf Try.prog 120 = some { kd := TK.int IntKind.u64, size := 1, bytes := 8, zero := [MV.int IntKind.u64 0] } := by kernel_rfl
theorem ti121 : tiOf Try.prog 121 = some { kd := TK.func, size := 1, bytes := 8, zero := [MV.nilfn] } := by kernel_rfl
theorem ti122 : tiOf Try.prog 122 = some { kd := TK.slice 5, size := 1, bytes := 24, zero := [MV.nil] } := by kernel_rfl
theorem ti123 : tiOf Try.prog 123 = some { kd := TK.slice 3, size := 1, bytes := 24, zero := [MV.nil] } := by kernel_rfl
theorem ti124 : tiOf Try.prog 124 = some { kd := TK.slice 123, size := 1, bytes := 24, zero := [MV.nil] } := by kernel_rfl
theorem ti125 : tiOf Try.prog 125 = some { kd := TK.func, size := 1, bytes := 8, zero := [MV.nilfn] } := by kernel_rfl
theorem ti126 : tiOf Try.prog 126 = some { kd := TK.func, size := 1, bytes := 8, zero := [MV.nilfn] } := by kernel_rfl
theorem ti127 : tiOf Try.prog 127 = some { kd := TK.func, size := 1, bytes := 8, zero := [MV.nilfn] } := by kernel_rfl
theorem ti128 : tiOf Try.prog 128 = some { kd := TK.func, size := 1, bytes := 8, zero := [MV.nilfn] } := by kernel_rfl
theorem ti129 : tiOf Try.prog 129 = some { kd := TK.func, size := 1, bytes := 8, zero := [MV.nilfn] } := by kernel_rfl
theorem ti130 : tiOf Try.prog 130 = some { kd := TK.func, size := 1, bytes := 8, zero := [MV.nilfn] } := by kernel_rfl
theorem ti131 : tiOf Try.prog 131 = some { kd := TK.func, size := 1, bytes := 8, zero := [MV.nilfn] } := by kernel_rfl
theorem ti132 : tiOf Try.prog 132 = some { kd := TK.int IntKind.u32, size := 1, bytes := 4, zero := [MV.int IntKind.u32 0] } := by kernel_rfl
theorem ti133 : tiOf Try.prog 133 = some { kd := TK.int IntKind.u64, size := 1, bytes := 8, zero := [MV.int IntKind.u64 0] } := by kernel_rfl
theorem ti134 : tiOf Try.prog 134 = some { kd := TK.func, size := 1, bytes := 8, zero := [MV.nilfn] } := by kernel_rfl
theorem ti135 : tiOf Try.prog 135 = some { kd := TK.func, size := 1, bytes := 8, zero := [MV.nilfn] } := by kernel_rfl
theorem ti136 : tiOf Try.prog 136 = some { kd := TK.func, size := 1, bytes := 8, zero := [MV.nilfn] } := by kernel_rfl
theorem ti138 : tiOf Try.prog 138 = some { kd := TK.func, size := 1, bytes := 8, zero := [MV.nilfn] } := by kernel_rfl
theorem ti139 : tiOf Try.prog 139 = some { kd := TK.func, size := 1, bytes := 8, zero := [MV.nilfn] } := by kernel_rfl
theorem ti140 : tiOf Try.prog 140 = some { kd := TK.func, size := 1, bytes := 8, zero := [MV.nilfn] } := by kernel_rfl
theorem ti141 : tiOf Try.prog 141 = some { kd := TK.func, size := 1, bytes := 8, zero := [MV.nilfn] } := by kernel_rfl
theorem ti142 : tiOf Try.prog 142 = some { kd := TK.iface, size := 1, bytes := 16, zero := [MV.nilifc] } := by kernel_rfl
theorem ti143 : tiOf Try.prog 143 = some { kd := TK.iface, size := 1, bytes := 16, zero := [MV.nilifc] } := by kernel_rfl
theorem ti144 : tiOf Try.prog 144 = some { kd := TK.ptr 160, size := 1, bytes := 8, zero := [MV.nilptr] } := by kernel_rfl
theorem ti145 : tiOf Try.prog 145 = some { kd := TK.func, size := 1, bytes := 8, zero := [MV.nilfn] } := by kernel_rfl
theorem ti146 : tiOf Try.prog 146 = some { kd := TK.strct [(0, 17), (1, 17), (2, 17), (3, 9)], size := 4, bytes := 40, zero := [MV.nilptr, MV.nilptr, MV.nilptr, MV.str ByteArray.empty] } := by kernel_rfl
theorem ti147 : tiOf Try.prog 147 = some { kd := TK.strct [(0, 17), (1, 17), (2, 17), (3, 9)], size := 4, bytes := 40, zero := [MV.nilptr, MV.nilptr, MV.nilptr, MV.str ByteArray.empty] } := by kernel_rfl
theorem ti148 : tiOf Try.prog 148 = some { kd := TK.arr 0 16, size := 0, bytes := 0, zero := [] } := by kernel_rfl
theorem ti149 : tiOf Try.prog 149 = some { kd := TK.strct [(0, 148)], size := 0, bytes := 0, zero := [] } := by kernel_rfl
theorem ti150 : tiOf Try.prog 150 = some { kd := TK.strct [(0, 148)], size := 0, bytes := 0, zero := [] } := by kernel_rfl
theorem ti151 : tiOf Try.prog 151 = some { kd := TK.int IntKind.u8, size := 1, bytes := 1, zero := [MV.int IntKind.u8 0] } := by kernel_rfl
theorem ti152 : tiOf Try.prog 152 = some { kd := TK.int IntKind.u8, size := 1, bytes := 1, zero := [MV.int IntKind.u8 0] } := by kernel_rfl
theorem ti153 : tiOf Try.prog 153 = some { kd := TK.func, size := 1, bytes := 8, zero := [MV.nilfn] } := by kernel_rfl
theorem ti154 : tiOf Try.prog 154 = some { kd := TK.ptr 5, size := 1, bytes := 8, zero := [MV.nilptr] } := by kernel_rfl
theorem ti155 : tiOf Try.prog 155 = some { kd := TK.int IntKind.i32, size := 1, bytes := 4, zero := [MV.int IntKind.i32 0] } := by kernel_rfl
theorem ti156 : tiOf Try.prog 156 = some { kd := TK.int IntKind.i32, size := 1, bytes := 4, zero := [MV.int IntKind.i32 0] } := by kernel_rfl
theorem ti157 : tiOf Try.prog 157 = some { kd := TK.strct [(0, 12), (1, 12), (2, 132), (3, 151), (4, 5), (5, 5), (6, 152), (7, 153), (8, 154), (9, 155), (10, 156)], size := 11, bytes := 48, zero := [MV.int IntKind.u64 0, MV.int IntKind.u64 0, MV.int IntKind.u32 0, MV.int IntKind.u8 0, MV.int IntKind.u8 0, MV.int IntKind.u8 0, MV.int IntKind.u8 0, MV.nilfn, MV.nilptr, MV.int IntKind.i32 0, MV.int IntKind.i32 0] } := by kernel_rfl
theorem ti158 : tiOf Try.prog 158 = some { kd := TK.strct [(0, 12), (1, 12), (2, 132), (3, 151), (4, 5), (5, 5), (6, 152), (7, 153), (8, 154), (9, 155), (10, 156)], size := 11, bytes := 48, zero := [MV.int IntKind.u64 0, MV.int IntKind.u64 0, MV.int IntKind.u32 0, MV.int IntKind.u8 0, MV.int IntKind.u8 0, MV.int IntKind.u8 0, MV.int IntKind.u8 0, MV.nilfn, MV.nilptr, MV.int IntKind.i32 0, MV.int IntKind.i32 0] } := by kernel_rfl
theorem ti159 : tiOf Try.prog 159 = some { kd := TK.strct [(0, 9)], size := 1, bytes := 16, zero := [MV.str ByteArray.empty] } := by kernel_rfl
theorem ti160 : tiOf Try.prog 160 = some { kd := TK.strct [(0, 9)], size := 1, bytes := 16, zero := [MV.str ByteArray.empty] } := by kernel_rfl
theorem ti161 : tiOf Try.prog 161 = some { kd := TK.other, size := 1, bytes := 8, zero := [MV.nilptr] } := by kernel_rfl
theorem eqt7 : eqTy Try.prog 7 = some [TK.int IntKind.i64, TK.int IntKind.i64, TK.bool, TK.int IntKind.u8] := by kernel_rfl
theorem eqt8 : eqTy Try.prog 8 = some [TK.int IntKind.i64, TK.int IntKind.i64, TK.bool, TK.int IntKind.u8] := by kernel_rfl
theorem eqt26 : eqTy Try.prog 26 = some [TK.int IntKind.i64, TK.int IntKind.i64, TK.int IntKind.i64] := by kernel_rfl
theorem eqt27 : eqTy Try.prog 27 = some [TK.int IntKind.i64, TK.int IntKind.i64, TK.int IntKind.i64] := by kernel_rfl
theorem eqt29 : eqTy Try.prog 29 = some [TK.int IntKind.i64, TK.int IntKind.i64] := by kernel_rfl
theorem eqt30 : eqTy Try.prog 30 = some [TK.int IntKind.i64, TK.int IntKind.i64] := by kernel_rfl
theorem eqt50 : eqTy Try.prog 50 = some [TK.int IntKind.i64, TK.int IntKind.i64, TK.int IntKind.i64, TK.int IntKind.i64] := by kernel_rfl
theorem eqt51 : eqTy Try.prog 51 = some [TK.int IntKind.i64, TK.int IntKind.i64, TK.int IntKind.i64, TK.int IntKind.i64] := by kernel_rfl
theorem eqt62 : eqTy Try.prog 62 = some [TK.int IntKind.i64, TK.int IntKind.i64, TK.int IntKind.i64, TK.int IntKind.i64, TK.int IntKind.i64, TK.int IntKind.i64] := by kernel_rfl
theorem eqt63 : eqTy Try.prog 63 = some [TK.int IntKind.i64, TK.int IntKind.i64, TK.int IntKind.i64, TK.int IntKind.i64, TK.int IntKind.i64, TK.int IntKind.i64] := by kernel_rfl
theorem eqt82 : eqTy Try.prog 82 = some [TK.int IntKind.i64, TK.int IntKind.i64, TK.int IntKind.i64] := by kernel_rfl
theorem eqt83 : eqTy Try.prog 83 = some [TK.int IntKind.i64, TK.int IntKind.i64, TK.int IntKind.i64] := by kernel_rfl
theorem eqt159 : eqTy Try.prog 159 = some [TK.str] := by kernel_rfl
theorem eqt160 : eqTy Try.prog 160 = some [TK.str] := by kernel_rfl
theorem hmix : Try.prog.follows .mixedOrders = true := by kernel_rfl
end Go.Pv
