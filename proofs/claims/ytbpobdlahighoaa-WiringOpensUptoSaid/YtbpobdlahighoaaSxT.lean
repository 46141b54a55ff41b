/- The rows of the types' table of this program, each held against the program by the kernel; the words of the symbolic walk. -/
import Derived.Test.YtbpobdlahighoaaSxJ
import Derived.Test.YtbpobdlahighoaaProg
namespace Go.Proofs.Ytbpobdlahighoaa.Sx
open Go
noncomputable abbrev Pr : Program := Go.Proofs.Try.prog
@[go_sem] theorem td1 : tdOf Pr 1 = ⟨.func, some (1, 8, (some (.nilFunc))), false, false⟩ := by kernel_rfl
@[go_sem] theorem td2 : tdOf Pr 2 = ⟨.int .i64, some (1, 8, (some (.int .i64 0))), false, false⟩ := by kernel_rfl
@[go_sem] theorem td3 : tdOf Pr 3 = ⟨.int .i64, some (1, 8, (some (.int .i64 0))), false, false⟩ := by kernel_rfl
@[go_sem] theorem td4 : tdOf Pr 4 = ⟨.bool, some (1, 1, (some (.bool false))), false, false⟩ := by kernel_rfl
@[go_sem] theorem td5 : tdOf Pr 5 = ⟨.int .u8, some (1, 1, (some (.int .u8 0))), false, false⟩ := by kernel_rfl
@[go_sem] theorem td6 : tdOf Pr 6 = ⟨.int .u8, some (1, 1, (some (.int .u8 0))), false, false⟩ := by kernel_rfl
@[go_sem] theorem td7 : tdOf Pr 7 = ⟨.struct [(0, 2), (1, 3), (2, 4), (3, 6)], some (4, 24, (some (.agg #[.int .i64 0, .int .i64 0, .bool false, .int .u8 0]))), false, false⟩ := by kernel_rfl
@[go_sem] theorem td8 : tdOf Pr 8 = ⟨.struct [(0, 2), (1, 3), (2, 4), (3, 6)], some (4, 24, (some (.agg #[.int .i64 0, .int .i64 0, .bool false, .int .u8 0]))), false, false⟩ := by kernel_rfl
@[go_sem] theorem td9 : tdOf Pr 9 = ⟨.string, some (1, 16, (some (.string ByteArray.empty))), false, false⟩ := by kernel_rfl
@[go_sem] theorem td10 : tdOf Pr 10 = ⟨.string, some (1, 16, (some (.string ByteArray.empty))), false, false⟩ := by kernel_rfl
@[go_sem] theorem td11 : tdOf Pr 11 = ⟨.string, some (1, 16, (some (.string ByteArray.empty))), false, false⟩ := by kernel_rfl
@[go_sem] theorem td12 : tdOf Pr 12 = ⟨.int .u64, some (1, 8, (some (.int .u64 0))), false, false⟩ := by kernel_rfl
@[go_sem] theorem td13 : tdOf Pr 13 = ⟨.struct [(0, 9), (1, 12)], some (2, 24, (some (.agg #[.string ByteArray.empty, .int .u64 0]))), false, true⟩ := by kernel_rfl
@[go_sem] theorem td14 : tdOf Pr 14 = ⟨.struct [(0, 9), (1, 12)], some (2, 24, (some (.agg #[.string ByteArray.empty, .int .u64 0]))), false, true⟩ := by kernel_rfl
@[go_sem] theorem td15 : tdOf Pr 15 = ⟨.ptr 147, some (1, 8, (some (.pointer none))), false, false⟩ := by kernel_rfl
@[go_sem] theorem td16 : tdOf Pr 16 = ⟨.ptr 150, some (1, 8, (some (.pointer none))), false, false⟩ := by kernel_rfl
@[go_sem] theorem td17 : tdOf Pr 17 = ⟨.ptr 159, some (1, 8, (some (.pointer none))), false, false⟩ := by kernel_rfl
@[go_sem] theorem td18 : tdOf Pr 18 = ⟨.struct [(0, 17)], some (1, 8, (some (.agg #[.pointer none]))), false, true⟩ := by kernel_rfl
@[go_sem] theorem td19 : tdOf Pr 19 = ⟨.struct [(0, 17)], some (1, 8, (some (.agg #[.pointer none]))), false, true⟩ := by kernel_rfl
@[go_sem] theorem td20 : tdOf Pr 20 = ⟨.iface, some (1, 16, (some (.nilIface))), false, false⟩ := by kernel_rfl
@[go_sem] theorem td21 : tdOf Pr 21 = ⟨.int .i32, some (1, 4, (some (.int .i32 0))), false, false⟩ := by kernel_rfl
@[go_sem] theorem td22 : tdOf Pr 22 = ⟨.int .u64, some (1, 8, (some (.int .u64 0))), false, false⟩ := by kernel_rfl
@[go_sem] theorem td23 : tdOf Pr 23 = ⟨.slice 49, some (1, 24, (some (.slice none 0 0))), false, false⟩ := by kernel_rfl
@[go_sem] theorem td24 : tdOf Pr 24 = ⟨.slice 161, some (1, 24, (some (.slice none 0 0))), false, false⟩ := by kernel_rfl
@[go_sem] theorem td25 : tdOf Pr 25 = ⟨.slice 163, some (1, 24, (some (.slice none 0 0))), false, false⟩ := by kernel_rfl
@[go_sem] theorem td26 : tdOf Pr 26 = ⟨.slice 43, some (1, 24, (some (.slice none 0 0))), false, false⟩ := by kernel_rfl
@[go_sem] theorem td27 : tdOf Pr 27 = ⟨.slice 55, some (1, 24, (some (.slice none 0 0))), false, false⟩ := by kernel_rfl
@[go_sem] theorem td28 : tdOf Pr 28 = ⟨.struct [(0, 22), (1, 23), (2, 24), (3, 25), (4, 26), (5, 27)], some (6, 128, (some (.agg #[.int .u64 0, .slice none 0 0, .slice none 0 0, .slice none 0 0, .slice none 0 0, .slice none 0 0]))), false, false⟩ := by kernel_rfl
@[go_sem] theorem td29 : tdOf Pr 29 = ⟨.struct [(0, 22), (1, 23), (2, 24), (3, 25), (4, 26), (5, 27)], some (6, 128, (some (.agg #[.int .u64 0, .slice none 0 0, .slice none 0 0, .slice none 0 0, .slice none 0 0, .slice none 0 0]))), false, false⟩ := by kernel_rfl
@[go_sem] theorem td30 : tdOf Pr 30 = ⟨.func, some (1, 8, (some (.nilFunc))), false, false⟩ := by kernel_rfl
@[go_sem] theorem td31 : tdOf Pr 31 = ⟨.func, some (1, 8, (some (.nilFunc))), false, false⟩ := by kernel_rfl
@[go_sem] theorem td33 : tdOf Pr 33 = ⟨.func, some (1, 8, (some (.nilFunc))), false, false⟩ := by kernel_rfl
@[go_sem] theorem td34 : tdOf Pr 34 = ⟨.int .i64, some (1, 8, (some (.int .i64 0))), false, false⟩ := by kernel_rfl
@[go_sem] theorem td35 : tdOf Pr 35 = ⟨.struct [(0, 34), (1, 3), (2, 3)], some (3, 24, (some (.agg #[.int .i64 0, .int .i64 0, .int .i64 0]))), false, false⟩ := by kernel_rfl
@[go_sem] theorem td36 : tdOf Pr 36 = ⟨.struct [(0, 34), (1, 3), (2, 3)], some (3, 24, (some (.agg #[.int .i64 0, .int .i64 0, .int .i64 0]))), false, false⟩ := by kernel_rfl
@[go_sem] theorem td37 : tdOf Pr 37 = ⟨.func, some (1, 8, (some (.nilFunc))), false, false⟩ := by kernel_rfl
@[go_sem] theorem td38 : tdOf Pr 38 = ⟨.int .u16, some (1, 2, (some (.int .u16 0))), false, false⟩ := by kernel_rfl
@[go_sem] theorem td40 : tdOf Pr 40 = ⟨.func, some (1, 8, (some (.nilFunc))), false, false⟩ := by kernel_rfl
@[go_sem] theorem td41 : tdOf Pr 41 = ⟨.int .u32, some (1, 4, (some (.int .u32 0))), false, false⟩ := by kernel_rfl
@[go_sem] theorem td42 : tdOf Pr 42 = ⟨.struct [(0, 38), (1, 38), (2, 9), (3, 4), (4, 4), (5, 41)], some (6, 32, (some (.agg #[.int .u16 0, .int .u16 0, .string ByteArray.empty, .bool false, .bool false, .int .u32 0]))), false, false⟩ := by kernel_rfl
@[go_sem] theorem td43 : tdOf Pr 43 = ⟨.struct [(0, 38), (1, 38), (2, 9), (3, 4), (4, 4), (5, 41)], some (6, 32, (some (.agg #[.int .u16 0, .int .u16 0, .string ByteArray.empty, .bool false, .bool false, .int .u32 0]))), false, false⟩ := by kernel_rfl
@[go_sem] theorem td44 : tdOf Pr 44 = ⟨.func, some (1, 8, (some (.nilFunc))), false, false⟩ := by kernel_rfl
@[go_sem] theorem td45 : tdOf Pr 45 = ⟨.func, some (1, 8, (some (.nilFunc))), false, false⟩ := by kernel_rfl
@[go_sem] theorem td46 : tdOf Pr 46 = ⟨.slice 50, some (1, 24, (some (.slice none 0 0))), false, false⟩ := by kernel_rfl
@[go_sem] theorem td47 : tdOf Pr 47 = ⟨.func, some (1, 8, (some (.nilFunc))), false, false⟩ := by kernel_rfl
@[go_sem] theorem td48 : tdOf Pr 48 = ⟨.struct [(0, 38), (1, 9), (2, 22), (3, 22)], some (4, 40, (some (.agg #[.int .u16 0, .string ByteArray.empty, .int .u64 0, .int .u64 0]))), false, false⟩ := by kernel_rfl
@[go_sem] theorem td49 : tdOf Pr 49 = ⟨.struct [(0, 38), (1, 9), (2, 22), (3, 22)], some (4, 40, (some (.agg #[.int .u16 0, .string ByteArray.empty, .int .u64 0, .int .u64 0]))), false, false⟩ := by kernel_rfl
@[go_sem] theorem td50 : tdOf Pr 50 = ⟨.slice 3, some (1, 24, (some (.slice none 0 0))), false, false⟩ := by kernel_rfl
@[go_sem] theorem td51 : tdOf Pr 51 = ⟨.func, some (1, 8, (some (.nilFunc))), false, false⟩ := by kernel_rfl
@[go_sem] theorem td52 : tdOf Pr 52 = ⟨.func, some (1, 8, (some (.nilFunc))), false, false⟩ := by kernel_rfl
@[go_sem] theorem td53 : tdOf Pr 53 = ⟨.slice 38, some (1, 24, (some (.slice none 0 0))), false, false⟩ := by kernel_rfl
@[go_sem] theorem td54 : tdOf Pr 54 = ⟨.struct [(0, 38), (1, 38), (2, 53)], some (3, 32, (some (.agg #[.int .u16 0, .int .u16 0, .slice none 0 0]))), false, false⟩ := by kernel_rfl
@[go_sem] theorem td55 : tdOf Pr 55 = ⟨.struct [(0, 38), (1, 38), (2, 53)], some (3, 32, (some (.agg #[.int .u16 0, .int .u16 0, .slice none 0 0]))), false, false⟩ := by kernel_rfl
@[go_sem] theorem td56 : tdOf Pr 56 = ⟨.func, some (1, 8, (some (.nilFunc))), false, false⟩ := by kernel_rfl
@[go_sem] theorem td57 : tdOf Pr 57 = ⟨.func, some (1, 8, (some (.nilFunc))), false, false⟩ := by kernel_rfl
@[go_sem] theorem td58 : tdOf Pr 58 = ⟨.func, some (1, 8, (some (.nilFunc))), false, false⟩ := by kernel_rfl
@[go_sem] theorem td59 : tdOf Pr 59 = ⟨.func, some (1, 8, (some (.nilFunc))), false, false⟩ := by kernel_rfl
@[go_sem] theorem td60 : tdOf Pr 60 = ⟨.func, some (1, 8, (some (.nilFunc))), false, false⟩ := by kernel_rfl
@[go_sem] theorem td61 : tdOf Pr 61 = ⟨.func, some (1, 8, (some (.nilFunc))), false, false⟩ := by kernel_rfl
@[go_sem] theorem td62 : tdOf Pr 62 = ⟨.func, some (1, 8, (some (.nilFunc))), false, false⟩ := by kernel_rfl
@[go_sem] theorem td63 : tdOf Pr 63 = ⟨.ptr 77, some (1, 8, (some (.pointer none))), false, false⟩ := by kernel_rfl
@[go_sem] theorem td64 : tdOf Pr 64 = ⟨.func, some (1, 8, (some (.nilFunc))), false, false⟩ := by kernel_rfl
@[go_sem] theorem td65 : tdOf Pr 65 = ⟨.func, some (1, 8, (some (.nilFunc))), false, false⟩ := by kernel_rfl
@[go_sem] theorem td66 : tdOf Pr 66 = ⟨.func, some (1, 8, (some (.nilFunc))), false, false⟩ := by kernel_rfl
@[go_sem] theorem td67 : tdOf Pr 67 = ⟨.func, some (1, 8, (some (.nilFunc))), false, false⟩ := by kernel_rfl
@[go_sem] theorem td68 : tdOf Pr 68 = ⟨.func, some (1, 8, (some (.nilFunc))), false, false⟩ := by kernel_rfl
@[go_sem] theorem td69 : tdOf Pr 69 = ⟨.func, some (1, 8, (some (.nilFunc))), false, false⟩ := by kernel_rfl
@[go_sem] theorem td70 : tdOf Pr 70 = ⟨.ptr 97, some (1, 8, (some (.pointer none))), false, false⟩ := by kernel_rfl
@[go_sem] theorem td71 : tdOf Pr 71 = ⟨.func, some (1, 8, (some (.nilFunc))), false, false⟩ := by kernel_rfl
@[go_sem] theorem td72 : tdOf Pr 72 = ⟨.func, some (1, 8, (some (.nilFunc))), false, false⟩ := by kernel_rfl
@[go_sem] theorem td73 : tdOf Pr 73 = ⟨.map 3 4, some (1, 8, (some (.map none))), false, false⟩ := by kernel_rfl
@[go_sem] theorem td74 : tdOf Pr 74 = ⟨.func, some (1, 8, (some (.nilFunc))), false, false⟩ := by kernel_rfl
@[go_sem] theorem td75 : tdOf Pr 75 = ⟨.map 38 4, some (1, 8, (some (.map none))), false, false⟩ := by kernel_rfl
@[go_sem] theorem td76 : tdOf Pr 76 = ⟨.struct [(0, 29), (6, 70), (7, 75)], some (8, 144, (some (.agg #[.int .u64 0, .slice none 0 0, .slice none 0 0, .slice none 0 0, .slice none 0 0, .slice none 0 0, .pointer none, .map none]))), false, false⟩ := by kernel_rfl
@[go_sem] theorem td77 : tdOf Pr 77 = ⟨.struct [(0, 29), (6, 70), (7, 75)], some (8, 144, (some (.agg #[.int .u64 0, .slice none 0 0, .slice none 0 0, .slice none 0 0, .slice none 0 0, .slice none 0 0, .pointer none, .map none]))), false, false⟩ := by kernel_rfl
@[go_sem] theorem td78 : tdOf Pr 78 = ⟨.func, some (1, 8, (some (.nilFunc))), false, false⟩ := by kernel_rfl
@[go_sem] theorem td79 : tdOf Pr 79 = ⟨.slice 4, some (1, 24, (some (.slice none 0 0))), false, false⟩ := by kernel_rfl
@[go_sem] theorem td80 : tdOf Pr 80 = ⟨.func, some (1, 8, (some (.nilFunc))), false, false⟩ := by kernel_rfl
@[go_sem] theorem td81 : tdOf Pr 81 = ⟨.func, some (1, 8, (some (.nilFunc))), false, false⟩ := by kernel_rfl
@[go_sem] theorem td82 : tdOf Pr 82 = ⟨.func, some (1, 8, (some (.nilFunc))), false, false⟩ := by kernel_rfl
@[go_sem] theorem td83 : tdOf Pr 83 = ⟨.func, some (1, 8, (some (.nilFunc))), false, false⟩ := by kernel_rfl
@[go_sem] theorem td84 : tdOf Pr 84 = ⟨.func, some (1, 8, (some (.nilFunc))), false, false⟩ := by kernel_rfl
@[go_sem] theorem td85 : tdOf Pr 85 = ⟨.array 7 3, some (7, 56, (some (.agg #[.int .i64 0, .int .i64 0, .int .i64 0, .int .i64 0, .int .i64 0, .int .i64 0, .int .i64 0]))), false, false⟩ := by kernel_rfl
@[go_sem] theorem td86 : tdOf Pr 86 = ⟨.func, some (1, 8, (some (.nilFunc))), false, false⟩ := by kernel_rfl
@[go_sem] theorem td87 : tdOf Pr 87 = ⟨.func, some (1, 8, (some (.nilFunc))), false, false⟩ := by kernel_rfl
@[go_sem] theorem td89 : tdOf Pr 89 = ⟨.func, some (1, 8, (some (.nilFunc))), false, false⟩ := by kernel_rfl
@[go_sem] theorem td90 : tdOf Pr 90 = ⟨.func, some (1, 8, (some (.nilFunc))), false, false⟩ := by kernel_rfl
@[go_sem] theorem td91 : tdOf Pr 91 = ⟨.func, some (1, 8, (some (.nilFunc))), false, false⟩ := by kernel_rfl
@[go_sem] theorem td92 : tdOf Pr 92 = ⟨.map 38 3, some (1, 8, (some (.map none))), false, false⟩ := by kernel_rfl
@[go_sem] theorem td93 : tdOf Pr 93 = ⟨.map 38 3, some (1, 8, (some (.map none))), false, false⟩ := by kernel_rfl
@[go_sem] theorem td94 : tdOf Pr 94 = ⟨.map 107 3, some (1, 8, (some (.map none))), false, false⟩ := by kernel_rfl
@[go_sem] theorem td95 : tdOf Pr 95 = ⟨.map 107 3, some (1, 8, (some (.map none))), false, false⟩ := by kernel_rfl
@[go_sem] theorem td96 : tdOf Pr 96 = ⟨.struct [(0, 93), (1, 93), (2, 93), (3, 95)], some (4, 32, (some (.agg #[.map none, .map none, .map none, .map none]))), false, false⟩ := by kernel_rfl
@[go_sem] theorem td97 : tdOf Pr 97 = ⟨.struct [(0, 93), (1, 93), (2, 93), (3, 95)], some (4, 32, (some (.agg #[.map none, .map none, .map none, .map none]))), false, false⟩ := by kernel_rfl
@[go_sem] theorem td98 : tdOf Pr 98 = ⟨.func, some (1, 8, (some (.nilFunc))), false, false⟩ := by kernel_rfl
@[go_sem] theorem td99 : tdOf Pr 99 = ⟨.func, some (1, 8, (some (.nilFunc))), false, false⟩ := by kernel_rfl
@[go_sem] theorem td100 : tdOf Pr 100 = ⟨.func, some (1, 8, (some (.nilFunc))), false, false⟩ := by kernel_rfl
@[go_sem] theorem td101 : tdOf Pr 101 = ⟨.func, some (1, 8, (some (.nilFunc))), false, false⟩ := by kernel_rfl
@[go_sem] theorem td102 : tdOf Pr 102 = ⟨.func, some (1, 8, (some (.nilFunc))), false, false⟩ := by kernel_rfl
@[go_sem] theorem td103 : tdOf Pr 103 = ⟨.func, some (1, 8, (some (.nilFunc))), false, false⟩ := by kernel_rfl
@[go_sem] theorem td104 : tdOf Pr 104 = ⟨.func, some (1, 8, (some (.nilFunc))), false, false⟩ := by kernel_rfl
@[go_sem] theorem td105 : tdOf Pr 105 = ⟨.func, some (1, 8, (some (.nilFunc))), false, false⟩ := by kernel_rfl
@[go_sem] theorem td106 : tdOf Pr 106 = ⟨.struct [(0, 38), (1, 9)], some (2, 24, (some (.agg #[.int .u16 0, .string ByteArray.empty]))), false, false⟩ := by kernel_rfl
@[go_sem] theorem td107 : tdOf Pr 107 = ⟨.struct [(0, 38), (1, 9)], some (2, 24, (some (.agg #[.int .u16 0, .string ByteArray.empty]))), false, false⟩ := by kernel_rfl
@[go_sem] theorem td108 : tdOf Pr 108 = ⟨.func, some (1, 8, (some (.nilFunc))), false, false⟩ := by kernel_rfl
@[go_sem] theorem td109 : tdOf Pr 109 = ⟨.func, some (1, 8, (some (.nilFunc))), false, false⟩ := by kernel_rfl
@[go_sem] theorem td110 : tdOf Pr 110 = ⟨.func, some (1, 8, (some (.nilFunc))), false, false⟩ := by kernel_rfl
@[go_sem] theorem td111 : tdOf Pr 111 = ⟨.func, some (1, 8, (some (.nilFunc))), false, false⟩ := by kernel_rfl
@[go_sem] theorem td112 : tdOf Pr 112 = ⟨.int .u64, some (1, 8, (some (.int .u64 0))), false, false⟩ := by kernel_rfl
@[go_sem] theorem td113 : tdOf Pr 113 = ⟨.func, some (1, 8, (some (.nilFunc))), false, false⟩ := by kernel_rfl
@[go_sem] theorem td115 : tdOf Pr 115 = ⟨.func, some (1, 8, (some (.nilFunc))), false, false⟩ := by kernel_rfl
@[go_sem] theorem td116 : tdOf Pr 116 = ⟨.int .i64, some (1, 8, (some (.int .i64 0))), false, false⟩ := by kernel_rfl
@[go_sem] theorem td118 : tdOf Pr 118 = ⟨.func, some (1, 8, (some (.nilFunc))), false, false⟩ := by kernel_rfl
@[go_sem] theorem td119 : tdOf Pr 119 = ⟨.func, some (1, 8, (some (.nilFunc))), false, false⟩ := by kernel_rfl
@[go_sem] theorem td120 : tdOf Pr 120 = ⟨.func, some (1, 8, (some (.nilFunc))), false, false⟩ := by kernel_rfl
@[go_sem] theorem td121 : tdOf Pr 121 = ⟨.func, some (1, 8, (some (.nilFunc))), false, false⟩ := by kernel_rfl
@[go_sem] theorem td122 : tdOf Pr 122 = ⟨.func, some (1, 8, (some (.nilFunc))), false, false⟩ := by kernel_rfl
@[go_sem] theorem td123 : tdOf Pr 123 = ⟨.func, some (1, 8, (some (.nilFunc))), false, false⟩ := by kernel_rfl
@[go_sem] theorem td124 : tdOf Pr 124 = ⟨.func, some (1, 8, (some (.nilFunc))), false, false⟩ := by kernel_rfl
@[go_sem] theorem td125 : tdOf Pr 125 = ⟨.func, some (1, 8, (some (.nilFunc))), false, false⟩ := by kernel_rfl
@[go_sem] theorem td126 : tdOf Pr 126 = ⟨.func, some (1, 8, (some (.nilFunc))), false, false⟩ := by kernel_rfl
@[go_sem] theorem td127 : tdOf Pr 127 = ⟨.int .u64, some (1, 8, (some (.int .u64 0))), false, false⟩ := by kernel_rfl
@[go_sem] theorem td128 : tdOf Pr 128 = ⟨.func, some (1, 8, (some (.nilFunc))), false, false⟩ := by kernel_rfl
@[go_sem] theorem td129 : tdOf Pr 129 = ⟨.func, some (1, 8, (some (.nilFunc))), false, false⟩ := by kernel_rfl
@[go_sem] theorem td130 : tdOf Pr 130 = ⟨.func, some (1, 8, (some (.nilFunc))), false, false⟩ := by kernel_rfl
@[go_sem] theorem td131 : tdOf Pr 131 = ⟨.ptr 3, some (1, 8, (some (.pointer none))), false, false⟩ := by kernel_rfl
@[go_sem] theorem td132 : tdOf Pr 132 = ⟨.func, some (1, 8, (some (.nilFunc))), false, false⟩ := by kernel_rfl
@[go_sem] theorem td133 : tdOf Pr 133 = ⟨.func, some (1, 8, (some (.nilFunc))), false, false⟩ := by kernel_rfl
@[go_sem] theorem td134 : tdOf Pr 134 = ⟨.func, some (1, 8, (some (.nilFunc))), false, false⟩ := by kernel_rfl
@[go_sem] theorem td135 : tdOf Pr 135 = ⟨.func, some (1, 8, (some (.nilFunc))), false, false⟩ := by kernel_rfl
@[go_sem] theorem td136 : tdOf Pr 136 = ⟨.func, some (1, 8, (some (.nilFunc))), false, false⟩ := by kernel_rfl
@[go_sem] theorem td137 : tdOf Pr 137 = ⟨.func, some (1, 8, (some (.nilFunc))), false, false⟩ := by kernel_rfl
@[go_sem] theorem td138 : tdOf Pr 138 = ⟨.func, some (1, 8, (some (.nilFunc))), false, false⟩ := by kernel_rfl
@[go_sem] theorem td139 : tdOf Pr 139 = ⟨.func, some (1, 8, (some (.nilFunc))), false, false⟩ := by kernel_rfl
@[go_sem] theorem td140 : tdOf Pr 140 = ⟨.ptr 127, some (1, 8, (some (.pointer none))), false, false⟩ := by kernel_rfl
@[go_sem] theorem td141 : tdOf Pr 141 = ⟨.func, some (1, 8, (some (.nilFunc))), false, false⟩ := by kernel_rfl
@[go_sem] theorem td142 : tdOf Pr 142 = ⟨.func, some (1, 8, (some (.nilFunc))), false, false⟩ := by kernel_rfl
@[go_sem] theorem td143 : tdOf Pr 143 = ⟨.func, some (1, 8, (some (.nilFunc))), false, false⟩ := by kernel_rfl
@[go_sem] theorem td144 : tdOf Pr 144 = ⟨.func, some (1, 8, (some (.nilFunc))), false, false⟩ := by kernel_rfl
@[go_sem] theorem td145 : tdOf Pr 145 = ⟨.func, some (1, 8, (some (.nilFunc))), false, false⟩ := by kernel_rfl
@[go_sem] theorem td146 : tdOf Pr 146 = ⟨.struct [(0, 17), (1, 17), (2, 17), (3, 9)], some (4, 40, (some (.agg #[.pointer none, .pointer none, .pointer none, .string ByteArray.empty]))), false, true⟩ := by kernel_rfl
@[go_sem] theorem td147 : tdOf Pr 147 = ⟨.struct [(0, 17), (1, 17), (2, 17), (3, 9)], some (4, 40, (some (.agg #[.pointer none, .pointer none, .pointer none, .string ByteArray.empty]))), false, true⟩ := by kernel_rfl
@[go_sem] theorem td148 : tdOf Pr 148 = ⟨.array 0 16, some (0, 0, (some (.agg #[]))), false, false⟩ := by kernel_rfl
@[go_sem] theorem td149 : tdOf Pr 149 = ⟨.other, some (0, 0, (some (.agg #[]))), false, true⟩ := by kernel_rfl
@[go_sem] theorem td150 : tdOf Pr 150 = ⟨.other, some (0, 0, (some (.agg #[]))), false, true⟩ := by kernel_rfl
@[go_sem] theorem td151 : tdOf Pr 151 = ⟨.func, some (1, 8, (some (.nilFunc))), false, false⟩ := by kernel_rfl
@[go_sem] theorem td152 : tdOf Pr 152 = ⟨.int .u8, some (1, 1, (some (.int .u8 0))), false, false⟩ := by kernel_rfl
@[go_sem] theorem td153 : tdOf Pr 153 = ⟨.int .u8, some (1, 1, (some (.int .u8 0))), false, false⟩ := by kernel_rfl
@[go_sem] theorem td154 : tdOf Pr 154 = ⟨.func, some (1, 8, (some (.nilFunc))), false, false⟩ := by kernel_rfl
@[go_sem] theorem td155 : tdOf Pr 155 = ⟨.ptr 5, some (1, 8, (some (.pointer none))), false, false⟩ := by kernel_rfl
@[go_sem] theorem td156 : tdOf Pr 156 = ⟨.int .i32, some (1, 4, (some (.int .i32 0))), false, false⟩ := by kernel_rfl
@[go_sem] theorem td157 : tdOf Pr 157 = ⟨.int .i32, some (1, 4, (some (.int .i32 0))), false, false⟩ := by kernel_rfl
@[go_sem] theorem td158 : tdOf Pr 158 = ⟨.struct [(0, 12), (1, 12), (2, 41), (3, 152), (4, 5), (5, 5), (6, 153), (7, 154), (8, 155), (9, 156), (10, 157)], some (11, 48, (some (.agg #[.int .u64 0, .int .u64 0, .int .u32 0, .int .u8 0, .int .u8 0, .int .u8 0, .int .u8 0, .nilFunc, .pointer none, .int .i32 0, .int .i32 0]))), false, true⟩ := by kernel_rfl
@[go_sem] theorem td159 : tdOf Pr 159 = ⟨.struct [(0, 12), (1, 12), (2, 41), (3, 152), (4, 5), (5, 5), (6, 153), (7, 154), (8, 155), (9, 156), (10, 157)], some (11, 48, (some (.agg #[.int .u64 0, .int .u64 0, .int .u32 0, .int .u8 0, .int .u8 0, .int .u8 0, .int .u8 0, .nilFunc, .pointer none, .int .i32 0, .int .i32 0]))), false, true⟩ := by kernel_rfl
@[go_sem] theorem td160 : tdOf Pr 160 = ⟨.struct [(0, 22), (1, 22), (2, 38)], some (3, 24, (some (.agg #[.int .u64 0, .int .u64 0, .int .u16 0]))), false, false⟩ := by kernel_rfl
@[go_sem] theorem td161 : tdOf Pr 161 = ⟨.struct [(0, 22), (1, 22), (2, 38)], some (3, 24, (some (.agg #[.int .u64 0, .int .u64 0, .int .u16 0]))), false, false⟩ := by kernel_rfl
@[go_sem] theorem td162 : tdOf Pr 162 = ⟨.struct [(0, 22), (1, 22), (2, 38), (3, 5), (4, 4)], some (5, 24, (some (.agg #[.int .u64 0, .int .u64 0, .int .u16 0, .int .u8 0, .bool false]))), false, false⟩ := by kernel_rfl
@[go_sem] theorem td163 : tdOf Pr 163 = ⟨.struct [(0, 22), (1, 22), (2, 38), (3, 5), (4, 4)], some (5, 24, (some (.agg #[.int .u64 0, .int .u64 0, .int .u16 0, .int .u8 0, .bool false]))), false, false⟩ := by kernel_rfl
@[go_sem] theorem td164 : tdOf Pr 164 = ⟨.func, some (1, 8, (some (.nilFunc))), false, false⟩ := by kernel_rfl
@[go_sem] theorem td165 : tdOf Pr 165 = ⟨.other, some (1, 8, (some (.pointer none))), false, false⟩ := by kernel_rfl
end Go.Proofs.Ytbpobdlahighoaa.Sx
