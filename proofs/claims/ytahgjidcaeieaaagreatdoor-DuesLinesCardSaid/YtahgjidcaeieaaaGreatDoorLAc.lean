/- a part of the proof: steps, walks and plain laws that the law below stands on; no condition. -/
import Derived.Test.YtahgjidcaeieaaaGreatDoorLAa
import Derived.Test.YtahgjidcaeieaaaGreatDoorLAb
import Derived.Test.YtahgjidcaeieaaaGreatDoorProg
import Derived.KernelRfl
import Derived.Maps.Keyed
import Derived.MapKept
import Derived.DeepKeys4
import Derived.Lib.AppendZerosOnto
import Derived.Scope
import Derived.Laws.StructEq
set_option linter.unusedVariables false
set_option linter.unusedSimpArgs false
set_option linter.unnecessarySimpa false
set_option linter.unusedSectionVars false
namespace Go.Proofs.YtahgjidcaeieaaaGreatDoor
open Go.Eng
def ty1 : TI := ⟨.func, 1, (.nilFunc)⟩
theorem ty1_ok : TIok Tryz.prog 1 ty1 := ⟨by kernel_rfl, by kernel_rfl, by kernel_rfl⟩
def ty2 : TI := ⟨.int .i64, 1, (.int .i64 0)⟩
theorem ty2_ok : TIok Tryz.prog 2 ty2 := ⟨by kernel_rfl, by kernel_rfl, by kernel_rfl⟩
def ty3 : TI := ⟨.int .i64, 1, (.int .i64 0)⟩
theorem ty3_ok : TIok Tryz.prog 3 ty3 := ⟨by kernel_rfl, by kernel_rfl, by kernel_rfl⟩
def ty4 : TI := ⟨.bool, 1, (.bool false)⟩
theorem ty4_ok : TIok Tryz.prog 4 ty4 := ⟨by kernel_rfl, by kernel_rfl, by kernel_rfl⟩
def ty5 : TI := ⟨.int .u8, 1, (.int .u8 0)⟩
theorem ty5_ok : TIok Tryz.prog 5 ty5 := ⟨by kernel_rfl, by kernel_rfl, by kernel_rfl⟩
def ty6 : TI := ⟨.int .u8, 1, (.int .u8 0)⟩
theorem ty6_ok : TIok Tryz.prog 6 ty6 := ⟨by kernel_rfl, by kernel_rfl, by kernel_rfl⟩
def ty7 : TI := ⟨.struct [(2, 0, 1), (3, 1, 1), (4, 2, 1), (6, 3, 1)], 4, (.agg #[.int .i64 0, .int .i64 0, .bool false, .int .u8 0])⟩
theorem ty7_ok : TIok Tryz.prog 7 ty7 := ⟨by kernel_rfl, by kernel_rfl, by kernel_rfl⟩
def ty8 : TI := ⟨.struct [(2, 0, 1), (3, 1, 1), (4, 2, 1), (6, 3, 1)], 4, (.agg #[.int .i64 0, .int .i64 0, .bool false, .int .u8 0])⟩
theorem ty8_ok : TIok Tryz.prog 8 ty8 := ⟨by kernel_rfl, by kernel_rfl, by kernel_rfl⟩
def ty9 : TI := ⟨.str, 1, (.string ⟨#[]⟩)⟩
theorem ty9_ok : TIok Tryz.prog 9 ty9 := ⟨by kernel_rfl, by kernel_rfl, by kernel_rfl⟩
def ty10 : TI := ⟨.str, 1, (.string ⟨#[]⟩)⟩
theorem ty10_ok : TIok Tryz.prog 10 ty10 := ⟨by kernel_rfl, by kernel_rfl, by kernel_rfl⟩
def ty11 : TI := ⟨.str, 1, (.string ⟨#[]⟩)⟩
theorem ty11_ok : TIok Tryz.prog 11 ty11 := ⟨by kernel_rfl, by kernel_rfl, by kernel_rfl⟩
def ty12 : TI := ⟨.int .u64, 1, (.int .u64 0)⟩
theorem ty12_ok : TIok Tryz.prog 12 ty12 := ⟨by kernel_rfl, by kernel_rfl, by kernel_rfl⟩
def ty13 : TI := ⟨.struct [(9, 0, 1), (12, 1, 1)], 2, (.agg #[.string ⟨#[]⟩, .int .u64 0])⟩
theorem ty13_ok : TIok Tryz.prog 13 ty13 := ⟨by kernel_rfl, by kernel_rfl, by kernel_rfl⟩
def ty14 : TI := ⟨.struct [(9, 0, 1), (12, 1, 1)], 2, (.agg #[.string ⟨#[]⟩, .int .u64 0])⟩
theorem ty14_ok : TIok Tryz.prog 14 ty14 := ⟨by kernel_rfl, by kernel_rfl, by kernel_rfl⟩
def ty15 : TI := ⟨.ptr 233, 1, (.pointer none)⟩
theorem ty15_ok : TIok Tryz.prog 15 ty15 := ⟨by kernel_rfl, by kernel_rfl, by kernel_rfl⟩
def ty16 : TI := ⟨.ptr 236, 1, (.pointer none)⟩
theorem ty16_ok : TIok Tryz.prog 16 ty16 := ⟨by kernel_rfl, by kernel_rfl, by kernel_rfl⟩
def ty17 : TI := ⟨.ptr 243, 1, (.pointer none)⟩
theorem ty17_ok : TIok Tryz.prog 17 ty17 := ⟨by kernel_rfl, by kernel_rfl, by kernel_rfl⟩
def ty18 : TI := ⟨.struct [(17, 0, 1)], 1, (.agg #[.pointer none])⟩
theorem ty18_ok : TIok Tryz.prog 18 ty18 := ⟨by kernel_rfl, by kernel_rfl, by kernel_rfl⟩
def ty19 : TI := ⟨.struct [(17, 0, 1)], 1, (.agg #[.pointer none])⟩
theorem ty19_ok : TIok Tryz.prog 19 ty19 := ⟨by kernel_rfl, by kernel_rfl, by kernel_rfl⟩
def ty20 : TI := ⟨.iface true, 1, (.nilIface)⟩
theorem ty20_ok : TIok Tryz.prog 20 ty20 := ⟨by kernel_rfl, by kernel_rfl, by kernel_rfl⟩
def ty21 : TI := ⟨.int .i32, 1, (.int .i32 0)⟩
theorem ty21_ok : TIok Tryz.prog 21 ty21 := ⟨by kernel_rfl, by kernel_rfl, by kernel_rfl⟩
def ty22 : TI := ⟨.struct [(3, 0, 1), (3, 1, 1), (3, 2, 1), (3, 3, 1), (3, 4, 1), (3, 5, 1), (3, 6, 1), (3, 7, 1), (3, 8, 1)], 9, (.agg #[.int .i64 0, .int .i64 0, .int .i64 0, .int .i64 0, .int .i64 0, .int .i64 0, .int .i64 0, .int .i64 0, .int .i64 0])⟩
theorem ty22_ok : TIok Tryz.prog 22 ty22 := ⟨by kernel_rfl, by kernel_rfl, by kernel_rfl⟩
def ty23 : TI := ⟨.struct [(3, 0, 1), (3, 1, 1), (3, 2, 1), (3, 3, 1), (3, 4, 1), (3, 5, 1), (3, 6, 1), (3, 7, 1), (3, 8, 1)], 9, (.agg #[.int .i64 0, .int .i64 0, .int .i64 0, .int .i64 0, .int .i64 0, .int .i64 0, .int .i64 0, .int .i64 0, .int .i64 0])⟩
theorem ty23_ok : TIok Tryz.prog 23 ty23 := ⟨by kernel_rfl, by kernel_rfl, by kernel_rfl⟩
def ty24 : TI := ⟨.struct [(3, 0, 1), (3, 1, 1), (3, 2, 1), (3, 3, 1), (5, 4, 1), (3, 5, 1), (3, 6, 1), (5, 7, 1), (3, 8, 1), (3, 9, 1)], 10, (.agg #[.int .i64 0, .int .i64 0, .int .i64 0, .int .i64 0, .int .u8 0, .int .i64 0, .int .i64 0, .int .u8 0, .int .i64 0, .int .i64 0])⟩
theorem ty24_ok : TIok Tryz.prog 24 ty24 := ⟨by kernel_rfl, by kernel_rfl, by kernel_rfl⟩
def ty25 : TI := ⟨.struct [(3, 0, 1), (3, 1, 1), (3, 2, 1), (3, 3, 1), (5, 4, 1), (3, 5, 1), (3, 6, 1), (5, 7, 1), (3, 8, 1), (3, 9, 1)], 10, (.agg #[.int .i64 0, .int .i64 0, .int .i64 0, .int .i64 0, .int .u8 0, .int .i64 0, .int .i64 0, .int .u8 0, .int .i64 0, .int .i64 0])⟩
theorem ty25_ok : TIok Tryz.prog 25 ty25 := ⟨by kernel_rfl, by kernel_rfl, by kernel_rfl⟩
def ty26 : TI := ⟨.struct [(5, 0, 1), (3, 1, 1), (23, 2, 9), (25, 11, 10), (3, 21, 1), (3, 22, 1), (3, 23, 1)], 24, (.agg ([.int .u8 0] ++ List.replicate 14 (.int .i64 0) ++ [.int .u8 0] ++ [.int .i64 0, .int .i64 0] ++ [.int .u8 0] ++ List.replicate 5 (.int .i64 0) : List Value).toArray)⟩
theorem ty26_ok : TIok Tryz.prog 26 ty26 := ⟨by kernel_rfl, by kernel_rfl, by kernel_rfl⟩
def ty27 : TI := ⟨.struct [(5, 0, 1), (3, 1, 1), (23, 2, 9), (25, 11, 10), (3, 21, 1), (3, 22, 1), (3, 23, 1)], 24, (.agg ([.int .u8 0] ++ List.replicate 14 (.int .i64 0) ++ [.int .u8 0] ++ [.int .i64 0, .int .i64 0] ++ [.int .u8 0] ++ List.replicate 5 (.int .i64 0) : List Value).toArray)⟩
theorem ty27_ok : TIok Tryz.prog 27 ty27 := ⟨by kernel_rfl, by kernel_rfl, by kernel_rfl⟩
def ty28 : TI := ⟨.func, 1, (.nilFunc)⟩
theorem ty28_ok : TIok Tryz.prog 28 ty28 := ⟨by kernel_rfl, by kernel_rfl, by kernel_rfl⟩
def ty29 : TI := ⟨.int .i64, 1, (.int .i64 0)⟩
theorem ty29_ok : TIok Tryz.prog 29 ty29 := ⟨by kernel_rfl, by kernel_rfl, by kernel_rfl⟩
def ty31 : TI := ⟨.func, 1, (.nilFunc)⟩
theorem ty31_ok : TIok Tryz.prog 31 ty31 := ⟨by kernel_rfl, by kernel_rfl, by kernel_rfl⟩
def ty33 : TI := ⟨.func, 1, (.nilFunc)⟩
theorem ty33_ok : TIok Tryz.prog 33 ty33 := ⟨by kernel_rfl, by kernel_rfl, by kernel_rfl⟩
def ty34 : TI := ⟨.func, 1, (.nilFunc)⟩
theorem ty34_ok : TIok Tryz.prog 34 ty34 := ⟨by kernel_rfl, by kernel_rfl, by kernel_rfl⟩
def ty35 : TI := ⟨.ptr 88, 1, (.pointer none)⟩
theorem ty35_ok : TIok Tryz.prog 35 ty35 := ⟨by kernel_rfl, by kernel_rfl, by kernel_rfl⟩
def ty36 : TI := ⟨.func, 1, (.nilFunc)⟩
theorem ty36_ok : TIok Tryz.prog 36 ty36 := ⟨by kernel_rfl, by kernel_rfl, by kernel_rfl⟩
def ty37 : TI := ⟨.slice 90 9 80, 1, (.slice none 0 0)⟩
theorem ty37_ok : TIok Tryz.prog 37 ty37 := ⟨by kernel_rfl, by kernel_rfl, by kernel_rfl⟩
def ty38 : TI := ⟨.func, 1, (.nilFunc)⟩
theorem ty38_ok : TIok Tryz.prog 38 ty38 := ⟨by kernel_rfl, by kernel_rfl, by kernel_rfl⟩
def ty40 : TI := ⟨.func, 1, (.nilFunc)⟩
theorem ty40_ok : TIok Tryz.prog 40 ty40 := ⟨by kernel_rfl, by kernel_rfl, by kernel_rfl⟩
def ty41 : TI := ⟨.slice 49 3 24, 1, (.slice none 0 0)⟩
theorem ty41_ok : TIok Tryz.prog 41 ty41 := ⟨by kernel_rfl, by kernel_rfl, by kernel_rfl⟩
def ty42 : TI := ⟨.func, 1, (.nilFunc)⟩
theorem ty42_ok : TIok Tryz.prog 42 ty42 := ⟨by kernel_rfl, by kernel_rfl, by kernel_rfl⟩
def ty43 : TI := ⟨.slice 51 2 16, 1, (.slice none 0 0)⟩
theorem ty43_ok : TIok Tryz.prog 43 ty43 := ⟨by kernel_rfl, by kernel_rfl, by kernel_rfl⟩
def ty44 : TI := ⟨.func, 1, (.nilFunc)⟩
theorem ty44_ok : TIok Tryz.prog 44 ty44 := ⟨by kernel_rfl, by kernel_rfl, by kernel_rfl⟩
def ty45 : TI := ⟨.struct [(3, 0, 1), (3, 1, 1)], 2, (.agg #[.int .i64 0, .int .i64 0])⟩
theorem ty45_ok : TIok Tryz.prog 45 ty45 := ⟨by kernel_rfl, by kernel_rfl, by kernel_rfl⟩
def ty46 : TI := ⟨.struct [(3, 0, 1), (3, 1, 1)], 2, (.agg #[.int .i64 0, .int .i64 0])⟩
theorem ty46_ok : TIok Tryz.prog 46 ty46 := ⟨by kernel_rfl, by kernel_rfl, by kernel_rfl⟩
def ty47 : TI := ⟨.slice 46 2 16, 1, (.slice none 0 0)⟩
theorem ty47_ok : TIok Tryz.prog 47 ty47 := ⟨by kernel_rfl, by kernel_rfl, by kernel_rfl⟩
def ty48 : TI := ⟨.struct [(3, 0, 1), (3, 1, 1), (3, 2, 1)], 3, (.agg #[.int .i64 0, .int .i64 0, .int .i64 0])⟩
theorem ty48_ok : TIok Tryz.prog 48 ty48 := ⟨by kernel_rfl, by kernel_rfl, by kernel_rfl⟩
def ty49 : TI := ⟨.struct [(3, 0, 1), (3, 1, 1), (3, 2, 1)], 3, (.agg #[.int .i64 0, .int .i64 0, .int .i64 0])⟩
theorem ty49_ok : TIok Tryz.prog 49 ty49 := ⟨by kernel_rfl, by kernel_rfl, by kernel_rfl⟩
def ty50 : TI := ⟨.struct [(3, 0, 1), (3, 1, 1)], 2, (.agg #[.int .i64 0, .int .i64 0])⟩
theorem ty50_ok : TIok Tryz.prog 50 ty50 := ⟨by kernel_rfl, by kernel_rfl, by kernel_rfl⟩
def ty51 : TI := ⟨.struct [(3, 0, 1), (3, 1, 1)], 2, (.agg #[.int .i64 0, .int .i64 0])⟩
theorem ty51_ok : TIok Tryz.prog 51 ty51 := ⟨by kernel_rfl, by kernel_rfl, by kernel_rfl⟩
def ty52 : TI := ⟨.func, 1, (.nilFunc)⟩
theorem ty52_ok : TIok Tryz.prog 52 ty52 := ⟨by kernel_rfl, by kernel_rfl, by kernel_rfl⟩
def ty53 : TI := ⟨.func, 1, (.nilFunc)⟩
theorem ty53_ok : TIok Tryz.prog 53 ty53 := ⟨by kernel_rfl, by kernel_rfl, by kernel_rfl⟩
def ty54 : TI := ⟨.func, 1, (.nilFunc)⟩
theorem ty54_ok : TIok Tryz.prog 54 ty54 := ⟨by kernel_rfl, by kernel_rfl, by kernel_rfl⟩
def ty55 : TI := ⟨.slice 27 24 192, 1, (.slice none 0 0)⟩
theorem ty55_ok : TIok Tryz.prog 55 ty55 := ⟨by kernel_rfl, by kernel_rfl, by kernel_rfl⟩
def ty56 : TI := ⟨.func, 1, (.nilFunc)⟩
theorem ty56_ok : TIok Tryz.prog 56 ty56 := ⟨by kernel_rfl, by kernel_rfl, by kernel_rfl⟩
def ty57 : TI := ⟨.func, 1, (.nilFunc)⟩
theorem ty57_ok : TIok Tryz.prog 57 ty57 := ⟨by kernel_rfl, by kernel_rfl, by kernel_rfl⟩
def ty58 : TI := ⟨.slice 25 10 80, 1, (.slice none 0 0)⟩
theorem ty58_ok : TIok Tryz.prog 58 ty58 := ⟨by kernel_rfl, by kernel_rfl, by kernel_rfl⟩
def ty59 : TI := ⟨.func, 1, (.nilFunc)⟩
theorem ty59_ok : TIok Tryz.prog 59 ty59 := ⟨by kernel_rfl, by kernel_rfl, by kernel_rfl⟩
def ty60 : TI := ⟨.func, 1, (.nilFunc)⟩
theorem ty60_ok : TIok Tryz.prog 60 ty60 := ⟨by kernel_rfl, by kernel_rfl, by kernel_rfl⟩
def ty61 : TI := ⟨.func, 1, (.nilFunc)⟩
theorem ty61_ok : TIok Tryz.prog 61 ty61 := ⟨by kernel_rfl, by kernel_rfl, by kernel_rfl⟩
def ty62 : TI := ⟨.slice 9 1 16, 1, (.slice none 0 0)⟩
theorem ty62_ok : TIok Tryz.prog 62 ty62 := ⟨by kernel_rfl, by kernel_rfl, by kernel_rfl⟩
def ty63 : TI := ⟨.func, 1, (.nilFunc)⟩
theorem ty63_ok : TIok Tryz.prog 63 ty63 := ⟨by kernel_rfl, by kernel_rfl, by kernel_rfl⟩
def ty64 : TI := ⟨.slice 3 1 8, 1, (.slice none 0 0)⟩
theorem ty64_ok : TIok Tryz.prog 64 ty64 := ⟨by kernel_rfl, by kernel_rfl, by kernel_rfl⟩
def ty65 : TI := ⟨.func, 1, (.nilFunc)⟩
theorem ty65_ok : TIok Tryz.prog 65 ty65 := ⟨by kernel_rfl, by kernel_rfl, by kernel_rfl⟩
def ty66 : TI := ⟨.func, 1, (.nilFunc)⟩
theorem ty66_ok : TIok Tryz.prog 66 ty66 := ⟨by kernel_rfl, by kernel_rfl, by kernel_rfl⟩
def ty71 : TI := ⟨.func, 1, (.nilFunc)⟩
theorem ty71_ok : TIok Tryz.prog 71 ty71 := ⟨by kernel_rfl, by kernel_rfl, by kernel_rfl⟩
def ty72 : TI := ⟨.func, 1, (.nilFunc)⟩
theorem ty72_ok : TIok Tryz.prog 72 ty72 := ⟨by kernel_rfl, by kernel_rfl, by kernel_rfl⟩
def ty73 : TI := ⟨.iface false, 1, (.nilIface)⟩
theorem ty73_ok : TIok Tryz.prog 73 ty73 := ⟨by kernel_rfl, by kernel_rfl, by kernel_rfl⟩
def ty74 : TI := ⟨.iface false, 1, (.nilIface)⟩
theorem ty74_ok : TIok Tryz.prog 74 ty74 := ⟨by kernel_rfl, by kernel_rfl, by kernel_rfl⟩
def ty76 : TI := ⟨.func, 1, (.nilFunc)⟩
theorem ty76_ok : TIok Tryz.prog 76 ty76 := ⟨by kernel_rfl, by kernel_rfl, by kernel_rfl⟩
def ty77 : TI := ⟨.func, 1, (.nilFunc)⟩
theorem ty77_ok : TIok Tryz.prog 77 ty77 := ⟨by kernel_rfl, by kernel_rfl, by kernel_rfl⟩
def ty78 : TI := ⟨.ptr 23, 1, (.pointer none)⟩
theorem ty78_ok : TIok Tryz.prog 78 ty78 := ⟨by kernel_rfl, by kernel_rfl, by kernel_rfl⟩
def ty79 : TI := ⟨.ptr 3, 1, (.pointer none)⟩
theorem ty79_ok : TIok Tryz.prog 79 ty79 := ⟨by kernel_rfl, by kernel_rfl, by kernel_rfl⟩
def ty80 : TI := ⟨.slice 79 1 8, 1, (.slice none 0 0)⟩
theorem ty80_ok : TIok Tryz.prog 80 ty80 := ⟨by kernel_rfl, by kernel_rfl, by kernel_rfl⟩
def ty81 : TI := ⟨.ptr 25, 1, (.pointer none)⟩
theorem ty81_ok : TIok Tryz.prog 81 ty81 := ⟨by kernel_rfl, by kernel_rfl, by kernel_rfl⟩
def ty82 : TI := ⟨.func, 1, (.nilFunc)⟩
theorem ty82_ok : TIok Tryz.prog 82 ty82 := ⟨by kernel_rfl, by kernel_rfl, by kernel_rfl⟩
def ty83 : TI := ⟨.func, 1, (.nilFunc)⟩
theorem ty83_ok : TIok Tryz.prog 83 ty83 := ⟨by kernel_rfl, by kernel_rfl, by kernel_rfl⟩
def ty84 : TI := ⟨.func, 1, (.nilFunc)⟩
theorem ty84_ok : TIok Tryz.prog 84 ty84 := ⟨by kernel_rfl, by kernel_rfl, by kernel_rfl⟩
def ty85 : TI := ⟨.ptr 96, 1, (.pointer none)⟩
theorem ty85_ok : TIok Tryz.prog 85 ty85 := ⟨by kernel_rfl, by kernel_rfl, by kernel_rfl⟩
def ty86 : TI := ⟨.func, 1, (.nilFunc)⟩
theorem ty86_ok : TIok Tryz.prog 86 ty86 := ⟨by kernel_rfl, by kernel_rfl, by kernel_rfl⟩
def ty87 : TI := ⟨.struct [(55, 0, 1), (85, 1, 1)], 2, (.agg #[.slice none 0 0, .pointer none])⟩
theorem ty87_ok : TIok Tryz.prog 87 ty87 := ⟨by kernel_rfl, by kernel_rfl, by kernel_rfl⟩
def ty88 : TI := ⟨.struct [(55, 0, 1), (85, 1, 1)], 2, (.agg #[.slice none 0 0, .pointer none])⟩
theorem ty88_ok : TIok Tryz.prog 88 ty88 := ⟨by kernel_rfl, by kernel_rfl, by kernel_rfl⟩
def ty89 : TI := ⟨.struct [(3, 0, 1), (3, 1, 1), (5, 2, 1), (3, 3, 1), (3, 4, 1), (3, 5, 1), (3, 6, 1), (3, 7, 1), (9, 8, 1)], 9, (.agg #[.int .i64 0, .int .i64 0, .int .u8 0, .int .i64 0, .int .i64 0, .int .i64 0, .int .i64 0, .int .i64 0, .string ⟨#[]⟩])⟩
theorem ty89_ok : TIok Tryz.prog 89 ty89 := ⟨by kernel_rfl, by kernel_rfl, by kernel_rfl⟩
def ty90 : TI := ⟨.struct [(3, 0, 1), (3, 1, 1), (5, 2, 1), (3, 3, 1), (3, 4, 1), (3, 5, 1), (3, 6, 1), (3, 7, 1), (9, 8, 1)], 9, (.agg #[.int .i64 0, .int .i64 0, .int .u8 0, .int .i64 0, .int .i64 0, .int .i64 0, .int .i64 0, .int .i64 0, .string ⟨#[]⟩])⟩
theorem ty90_ok : TIok Tryz.prog 90 ty90 := ⟨by kernel_rfl, by kernel_rfl, by kernel_rfl⟩
def ty91 : TI := ⟨.func, 1, (.nilFunc)⟩
theorem ty91_ok : TIok Tryz.prog 91 ty91 := ⟨by kernel_rfl, by kernel_rfl, by kernel_rfl⟩
def ty92 : TI := ⟨.map 3 3, 1, (.map none)⟩
theorem ty92_ok : TIok Tryz.prog 92 ty92 := ⟨by kernel_rfl, by kernel_rfl, by kernel_rfl⟩
def ty93 : TI := ⟨.slice 23 9 72, 1, (.slice none 0 0)⟩
theorem ty93_ok : TIok Tryz.prog 93 ty93 := ⟨by kernel_rfl, by kernel_rfl, by kernel_rfl⟩
def ty94 : TI := ⟨.map 113 3, 1, (.map none)⟩
theorem ty94_ok : TIok Tryz.prog 94 ty94 := ⟨by kernel_rfl, by kernel_rfl, by kernel_rfl⟩
def ty95 : TI := ⟨.struct [(92, 0, 1), (92, 1, 1), (93, 2, 1), (94, 3, 1), (58, 4, 1), (92, 5, 1)], 6, (.agg #[.map none, .map none, .slice none 0 0, .map none, .slice none 0 0, .map none])⟩
theorem ty95_ok : TIok Tryz.prog 95 ty95 := ⟨by kernel_rfl, by kernel_rfl, by kernel_rfl⟩
def ty96 : TI := ⟨.struct [(92, 0, 1), (92, 1, 1), (93, 2, 1), (94, 3, 1), (58, 4, 1), (92, 5, 1)], 6, (.agg #[.map none, .map none, .slice none 0 0, .map none, .slice none 0 0, .map none])⟩
theorem ty96_ok : TIok Tryz.prog 96 ty96 := ⟨by kernel_rfl, by kernel_rfl, by kernel_rfl⟩
def ty97 : TI := ⟨.func, 1, (.nilFunc)⟩
theorem ty97_ok : TIok Tryz.prog 97 ty97 := ⟨by kernel_rfl, by kernel_rfl, by kernel_rfl⟩
def ty98 : TI := ⟨.func, 1, (.nilFunc)⟩
theorem ty98_ok : TIok Tryz.prog 98 ty98 := ⟨by kernel_rfl, by kernel_rfl, by kernel_rfl⟩
def ty99 : TI := ⟨.func, 1, (.nilFunc)⟩
theorem ty99_ok : TIok Tryz.prog 99 ty99 := ⟨by kernel_rfl, by kernel_rfl, by kernel_rfl⟩
def ty100 : TI := ⟨.func, 1, (.nilFunc)⟩
theorem ty100_ok : TIok Tryz.prog 100 ty100 := ⟨by kernel_rfl, by kernel_rfl, by kernel_rfl⟩
def ty101 : TI := ⟨.func, 1, (.nilFunc)⟩
theorem ty101_ok : TIok Tryz.prog 101 ty101 := ⟨by kernel_rfl, by kernel_rfl, by kernel_rfl⟩
def ty102 : TI := ⟨.func, 1, (.nilFunc)⟩
theorem ty102_ok : TIok Tryz.prog 102 ty102 := ⟨by kernel_rfl, by kernel_rfl, by kernel_rfl⟩
def ty103 : TI := ⟨.func, 1, (.nilFunc)⟩
theorem ty103_ok : TIok Tryz.prog 103 ty103 := ⟨by kernel_rfl, by kernel_rfl, by kernel_rfl⟩
def ty104 : TI := ⟨.func, 1, (.nilFunc)⟩
theorem ty104_ok : TIok Tryz.prog 104 ty104 := ⟨by kernel_rfl, by kernel_rfl, by kernel_rfl⟩
def ty105 : TI := ⟨.func, 1, (.nilFunc)⟩
theorem ty105_ok : TIok Tryz.prog 105 ty105 := ⟨by kernel_rfl, by kernel_rfl, by kernel_rfl⟩
def ty106 : TI := ⟨.func, 1, (.nilFunc)⟩
theorem ty106_ok : TIok Tryz.prog 106 ty106 := ⟨by kernel_rfl, by kernel_rfl, by kernel_rfl⟩
def ty107 : TI := ⟨.func, 1, (.nilFunc)⟩
theorem ty107_ok : TIok Tryz.prog 107 ty107 := ⟨by kernel_rfl, by kernel_rfl, by kernel_rfl⟩
def ty108 : TI := ⟨.func, 1, (.nilFunc)⟩
theorem ty108_ok : TIok Tryz.prog 108 ty108 := ⟨by kernel_rfl, by kernel_rfl, by kernel_rfl⟩
def ty109 : TI := ⟨.func, 1, (.nilFunc)⟩
theorem ty109_ok : TIok Tryz.prog 109 ty109 := ⟨by kernel_rfl, by kernel_rfl, by kernel_rfl⟩
def ty110 : TI := ⟨.func, 1, (.nilFunc)⟩
theorem ty110_ok : TIok Tryz.prog 110 ty110 := ⟨by kernel_rfl, by kernel_rfl, by kernel_rfl⟩
def ty111 : TI := ⟨.func, 1, (.nilFunc)⟩
theorem ty111_ok : TIok Tryz.prog 111 ty111 := ⟨by kernel_rfl, by kernel_rfl, by kernel_rfl⟩
def ty112 : TI := ⟨.struct [(3, 0, 1), (3, 1, 1)], 2, (.agg #[.int .i64 0, .int .i64 0])⟩
theorem ty112_ok : TIok Tryz.prog 112 ty112 := ⟨by kernel_rfl, by kernel_rfl, by kernel_rfl⟩
def ty113 : TI := ⟨.struct [(3, 0, 1), (3, 1, 1)], 2, (.agg #[.int .i64 0, .int .i64 0])⟩
theorem ty113_ok : TIok Tryz.prog 113 ty113 := ⟨by kernel_rfl, by kernel_rfl, by kernel_rfl⟩
def ty114 : TI := ⟨.func, 1, (.nilFunc)⟩
theorem ty114_ok : TIok Tryz.prog 114 ty114 := ⟨by kernel_rfl, by kernel_rfl, by kernel_rfl⟩
def ty115 : TI := ⟨.func, 1, (.nilFunc)⟩
theorem ty115_ok : TIok Tryz.prog 115 ty115 := ⟨by kernel_rfl, by kernel_rfl, by kernel_rfl⟩
def ty116 : TI := ⟨.func, 1, (.nilFunc)⟩
theorem ty116_ok : TIok Tryz.prog 116 ty116 := ⟨by kernel_rfl, by kernel_rfl, by kernel_rfl⟩
def ty117 : TI := ⟨.func, 1, (.nilFunc)⟩
theorem ty117_ok : TIok Tryz.prog 117 ty117 := ⟨by kernel_rfl, by kernel_rfl, by kernel_rfl⟩
def ty118 : TI := ⟨.func, 1, (.nilFunc)⟩
theorem ty118_ok : TIok Tryz.prog 118 ty118 := ⟨by kernel_rfl, by kernel_rfl, by kernel_rfl⟩
def ty119 : TI := ⟨.func, 1, (.nilFunc)⟩
theorem ty119_ok : TIok Tryz.prog 119 ty119 := ⟨by kernel_rfl, by kernel_rfl, by kernel_rfl⟩
def ty120 : TI := ⟨.func, 1, (.nilFunc)⟩
theorem ty120_ok : TIok Tryz.prog 120 ty120 := ⟨by kernel_rfl, by kernel_rfl, by kernel_rfl⟩
def ty121 : TI := ⟨.func, 1, (.nilFunc)⟩
theorem ty121_ok : TIok Tryz.prog 121 ty121 := ⟨by kernel_rfl, by kernel_rfl, by kernel_rfl⟩
def ty122 : TI := ⟨.func, 1, (.nilFunc)⟩
theorem ty122_ok : TIok Tryz.prog 122 ty122 := ⟨by kernel_rfl, by kernel_rfl, by kernel_rfl⟩
def ty123 : TI := ⟨.func, 1, (.nilFunc)⟩
theorem ty123_ok : TIok Tryz.prog 123 ty123 := ⟨by kernel_rfl, by kernel_rfl, by kernel_rfl⟩
def ty124 : TI := ⟨.slice 5 1 1, 1, (.slice none 0 0)⟩
theorem ty124_ok : TIok Tryz.prog 124 ty124 := ⟨by kernel_rfl, by kernel_rfl, by kernel_rfl⟩
def ty125 : TI := ⟨.func, 1, (.nilFunc)⟩
theorem ty125_ok : TIok Tryz.prog 125 ty125 := ⟨by kernel_rfl, by kernel_rfl, by kernel_rfl⟩
def ty126 : TI := ⟨.int .i64, 1, (.int .i64 0)⟩
theorem ty126_ok : TIok Tryz.prog 126 ty126 := ⟨by kernel_rfl, by kernel_rfl, by kernel_rfl⟩
def ty128 : TI := ⟨.func, 1, (.nilFunc)⟩
theorem ty128_ok : TIok Tryz.prog 128 ty128 := ⟨by kernel_rfl, by kernel_rfl, by kernel_rfl⟩
def ty129 : TI := ⟨.ptr 152, 1, (.pointer none)⟩
theorem ty129_ok : TIok Tryz.prog 129 ty129 := ⟨by kernel_rfl, by kernel_rfl, by kernel_rfl⟩
def ty130 : TI := ⟨.func, 1, (.nilFunc)⟩
theorem ty130_ok : TIok Tryz.prog 130 ty130 := ⟨by kernel_rfl, by kernel_rfl, by kernel_rfl⟩
def ty131 : TI := ⟨.func, 1, (.nilFunc)⟩
theorem ty131_ok : TIok Tryz.prog 131 ty131 := ⟨by kernel_rfl, by kernel_rfl, by kernel_rfl⟩
def ty132 : TI := ⟨.func, 1, (.nilFunc)⟩
theorem ty132_ok : TIok Tryz.prog 132 ty132 := ⟨by kernel_rfl, by kernel_rfl, by kernel_rfl⟩
def ty133 : TI := ⟨.func, 1, (.nilFunc)⟩
theorem ty133_ok : TIok Tryz.prog 133 ty133 := ⟨by kernel_rfl, by kernel_rfl, by kernel_rfl⟩
def ty134 : TI := ⟨.map 5 133, 1, (.map none)⟩
theorem ty134_ok : TIok Tryz.prog 134 ty134 := ⟨by kernel_rfl, by kernel_rfl, by kernel_rfl⟩
def ty135 : TI := ⟨.func, 1, (.nilFunc)⟩
theorem ty135_ok : TIok Tryz.prog 135 ty135 := ⟨by kernel_rfl, by kernel_rfl, by kernel_rfl⟩
def ty136 : TI := ⟨.func, 1, (.nilFunc)⟩
theorem ty136_ok : TIok Tryz.prog 136 ty136 := ⟨by kernel_rfl, by kernel_rfl, by kernel_rfl⟩
def ty137 : TI := ⟨.func, 1, (.nilFunc)⟩
theorem ty137_ok : TIok Tryz.prog 137 ty137 := ⟨by kernel_rfl, by kernel_rfl, by kernel_rfl⟩
def ty138 : TI := ⟨.func, 1, (.nilFunc)⟩
theorem ty138_ok : TIok Tryz.prog 138 ty138 := ⟨by kernel_rfl, by kernel_rfl, by kernel_rfl⟩
def ty139 : TI := ⟨.arr 24 5 1, 24, (.agg (List.replicate 24 (.int .u8 0) : List Value).toArray)⟩
theorem ty139_ok : TIok Tryz.prog 139 ty139 := ⟨by kernel_rfl, by kernel_rfl, by kernel_rfl⟩
def ty140 : TI := ⟨.int .u64, 1, (.int .u64 0)⟩
theorem ty140_ok : TIok Tryz.prog 140 ty140 := ⟨by kernel_rfl, by kernel_rfl, by kernel_rfl⟩
def ty141 : TI := ⟨.func, 1, (.nilFunc)⟩
theorem ty141_ok : TIok Tryz.prog 141 ty141 := ⟨by kernel_rfl, by kernel_rfl, by kernel_rfl⟩
def ty142 : TI := ⟨.func, 1, (.nilFunc)⟩
theorem ty142_ok : TIok Tryz.prog 142 ty142 := ⟨by kernel_rfl, by kernel_rfl, by kernel_rfl⟩
def ty144 : TI := ⟨.func, 1, (.nilFunc)⟩
theorem ty144_ok : TIok Tryz.prog 144 ty144 := ⟨by kernel_rfl, by kernel_rfl, by kernel_rfl⟩
def ty145 : TI := ⟨.func, 1, (.nilFunc)⟩
theorem ty145_ok : TIok Tryz.prog 145 ty145 := ⟨by kernel_rfl, by kernel_rfl, by kernel_rfl⟩
def ty146 : TI := ⟨.func, 1, (.nilFunc)⟩
theorem ty146_ok : TIok Tryz.prog 146 ty146 := ⟨by kernel_rfl, by kernel_rfl, by kernel_rfl⟩
def ty147 : TI := ⟨.int .u64, 1, (.int .u64 0)⟩
theorem ty147_ok : TIok Tryz.prog 147 ty147 := ⟨by kernel_rfl, by kernel_rfl, by kernel_rfl⟩
def ty149 : TI := ⟨.func, 1, (.nilFunc)⟩
theorem ty149_ok : TIok Tryz.prog 149 ty149 := ⟨by kernel_rfl, by kernel_rfl, by kernel_rfl⟩
def ty150 : TI := ⟨.func, 1, (.nilFunc)⟩
theorem ty150_ok : TIok Tryz.prog 150 ty150 := ⟨by kernel_rfl, by kernel_rfl, by kernel_rfl⟩
def ty151 : TI := ⟨.struct [(9, 0, 1), (9, 1, 1), (74, 2, 1)], 3, (.agg #[.string ⟨#[]⟩, .string ⟨#[]⟩, .nilIface])⟩
theorem ty151_ok : TIok Tryz.prog 151 ty151 := ⟨by kernel_rfl, by kernel_rfl, by kernel_rfl⟩
def ty152 : TI := ⟨.struct [(9, 0, 1), (9, 1, 1), (74, 2, 1)], 3, (.agg #[.string ⟨#[]⟩, .string ⟨#[]⟩, .nilIface])⟩
theorem ty152_ok : TIok Tryz.prog 152 ty152 := ⟨by kernel_rfl, by kernel_rfl, by kernel_rfl⟩
def ty153 : TI := ⟨.func, 1, (.nilFunc)⟩
theorem ty153_ok : TIok Tryz.prog 153 ty153 := ⟨by kernel_rfl, by kernel_rfl, by kernel_rfl⟩
def ty155 : TI := ⟨.func, 1, (.nilFunc)⟩
theorem ty155_ok : TIok Tryz.prog 155 ty155 := ⟨by kernel_rfl, by kernel_rfl, by kernel_rfl⟩
def ty156 : TI := ⟨.func, 1, (.nilFunc)⟩
theorem ty156_ok : TIok Tryz.prog 156 ty156 := ⟨by kernel_rfl, by kernel_rfl, by kernel_rfl⟩
def ty157 : TI := ⟨.func, 1, (.nilFunc)⟩
theorem ty157_ok : TIok Tryz.prog 157 ty157 := ⟨by kernel_rfl, by kernel_rfl, by kernel_rfl⟩
def ty158 : TI := ⟨.func, 1, (.nilFunc)⟩
theorem ty158_ok : TIok Tryz.prog 158 ty158 := ⟨by kernel_rfl, by kernel_rfl, by kernel_rfl⟩
def ty159 : TI := ⟨.func, 1, (.nilFunc)⟩
theorem ty159_ok : TIok Tryz.prog 159 ty159 := ⟨by kernel_rfl, by kernel_rfl, by kernel_rfl⟩
def ty160 : TI := ⟨.arr 20 140 1, 20, (.agg (List.replicate 20 (.int .u64 0) : List Value).toArray)⟩
theorem ty160_ok : TIok Tryz.prog 160 ty160 := ⟨by kernel_rfl, by kernel_rfl, by kernel_rfl⟩
def ty161 : TI := ⟨.int .u32, 1, (.int .u32 0)⟩
theorem ty161_ok : TIok Tryz.prog 161 ty161 := ⟨by kernel_rfl, by kernel_rfl, by kernel_rfl⟩
def ty162 : TI := ⟨.arr 65 5 1, 65, (.agg (List.replicate 65 (.int .u8 0) : List Value).toArray)⟩
theorem ty162_ok : TIok Tryz.prog 162 ty162 := ⟨by kernel_rfl, by kernel_rfl, by kernel_rfl⟩
def ty163 : TI := ⟨.func, 1, (.nilFunc)⟩
theorem ty163_ok : TIok Tryz.prog 163 ty163 := ⟨by kernel_rfl, by kernel_rfl, by kernel_rfl⟩
def ty165 : TI := ⟨.func, 1, (.nilFunc)⟩
theorem ty165_ok : TIok Tryz.prog 165 ty165 := ⟨by kernel_rfl, by kernel_rfl, by kernel_rfl⟩
def ty166 : TI := ⟨.func, 1, (.nilFunc)⟩
theorem ty166_ok : TIok Tryz.prog 166 ty166 := ⟨by kernel_rfl, by kernel_rfl, by kernel_rfl⟩
def ty167 : TI := ⟨.func, 1, (.nilFunc)⟩
theorem ty167_ok : TIok Tryz.prog 167 ty167 := ⟨by kernel_rfl, by kernel_rfl, by kernel_rfl⟩
def ty168 : TI := ⟨.ptr 5, 1, (.pointer none)⟩
theorem ty168_ok : TIok Tryz.prog 168 ty168 := ⟨by kernel_rfl, by kernel_rfl, by kernel_rfl⟩
def ty169 : TI := ⟨.ptr 171, 1, (.pointer none)⟩
theorem ty169_ok : TIok Tryz.prog 169 ty169 := ⟨by kernel_rfl, by kernel_rfl, by kernel_rfl⟩
def ty170 : TI := ⟨.struct [(9, 0, 1)], 1, (.agg #[.string ⟨#[]⟩])⟩
theorem ty170_ok : TIok Tryz.prog 170 ty170 := ⟨by kernel_rfl, by kernel_rfl, by kernel_rfl⟩
def ty171 : TI := ⟨.struct [(9, 0, 1)], 1, (.agg #[.string ⟨#[]⟩])⟩
theorem ty171_ok : TIok Tryz.prog 171 ty171 := ⟨by kernel_rfl, by kernel_rfl, by kernel_rfl⟩
def ty172 : TI := ⟨.func, 1, (.nilFunc)⟩
theorem ty172_ok : TIok Tryz.prog 172 ty172 := ⟨by kernel_rfl, by kernel_rfl, by kernel_rfl⟩
def ty173 : TI := ⟨.func, 1, (.nilFunc)⟩
theorem ty173_ok : TIok Tryz.prog 173 ty173 := ⟨by kernel_rfl, by kernel_rfl, by kernel_rfl⟩
def ty174 : TI := ⟨.ptr 177, 1, (.pointer none)⟩
theorem ty174_ok : TIok Tryz.prog 174 ty174 := ⟨by kernel_rfl, by kernel_rfl, by kernel_rfl⟩
def ty175 : TI := ⟨.map 3 4, 1, (.map none)⟩
theorem ty175_ok : TIok Tryz.prog 175 ty175 := ⟨by kernel_rfl, by kernel_rfl, by kernel_rfl⟩
def ty176 : TI := ⟨.struct [(175, 0, 1), (175, 1, 1), (3, 2, 1), (3, 3, 1)], 4, (.agg #[.map none, .map none, .int .i64 0, .int .i64 0])⟩
theorem ty176_ok : TIok Tryz.prog 176 ty176 := ⟨by kernel_rfl, by kernel_rfl, by kernel_rfl⟩
def ty177 : TI := ⟨.struct [(175, 0, 1), (175, 1, 1), (3, 2, 1), (3, 3, 1)], 4, (.agg #[.map none, .map none, .int .i64 0, .int .i64 0])⟩
theorem ty177_ok : TIok Tryz.prog 177 ty177 := ⟨by kernel_rfl, by kernel_rfl, by kernel_rfl⟩
def ty178 : TI := ⟨.func, 1, (.nilFunc)⟩
theorem ty178_ok : TIok Tryz.prog 178 ty178 := ⟨by kernel_rfl, by kernel_rfl, by kernel_rfl⟩
def ty179 : TI := ⟨.func, 1, (.nilFunc)⟩
theorem ty179_ok : TIok Tryz.prog 179 ty179 := ⟨by kernel_rfl, by kernel_rfl, by kernel_rfl⟩
def ty180 : TI := ⟨.func, 1, (.nilFunc)⟩
theorem ty180_ok : TIok Tryz.prog 180 ty180 := ⟨by kernel_rfl, by kernel_rfl, by kernel_rfl⟩
def ty181 : TI := ⟨.func, 1, (.nilFunc)⟩
theorem ty181_ok : TIok Tryz.prog 181 ty181 := ⟨by kernel_rfl, by kernel_rfl, by kernel_rfl⟩
def ty182 : TI := ⟨.func, 1, (.nilFunc)⟩
theorem ty182_ok : TIok Tryz.prog 182 ty182 := ⟨by kernel_rfl, by kernel_rfl, by kernel_rfl⟩
def ty183 : TI := ⟨.func, 1, (.nilFunc)⟩
theorem ty183_ok : TIok Tryz.prog 183 ty183 := ⟨by kernel_rfl, by kernel_rfl, by kernel_rfl⟩
def ty184 : TI := ⟨.struct [(9, 0, 1), (181, 1, 1), (182, 2, 1), (183, 3, 1), (4, 4, 1)], 5, (.agg #[.string ⟨#[]⟩, .nilFunc, .nilFunc, .nilFunc, .bool false])⟩
theorem ty184_ok : TIok Tryz.prog 184 ty184 := ⟨by kernel_rfl, by kernel_rfl, by kernel_rfl⟩
def ty185 : TI := ⟨.struct [(9, 0, 1), (181, 1, 1), (182, 2, 1), (183, 3, 1), (4, 4, 1)], 5, (.agg #[.string ⟨#[]⟩, .nilFunc, .nilFunc, .nilFunc, .bool false])⟩
theorem ty185_ok : TIok Tryz.prog 185 ty185 := ⟨by kernel_rfl, by kernel_rfl, by kernel_rfl⟩
def ty187 : TI := ⟨.func, 1, (.nilFunc)⟩
theorem ty187_ok : TIok Tryz.prog 187 ty187 := ⟨by kernel_rfl, by kernel_rfl, by kernel_rfl⟩
def ty188 : TI := ⟨.slice 90 9 80, 1, (.slice none 0 0)⟩
theorem ty188_ok : TIok Tryz.prog 188 ty188 := ⟨by kernel_rfl, by kernel_rfl, by kernel_rfl⟩
def ty189 : TI := ⟨.func, 1, (.nilFunc)⟩
theorem ty189_ok : TIok Tryz.prog 189 ty189 := ⟨by kernel_rfl, by kernel_rfl, by kernel_rfl⟩
def ty190 : TI := ⟨.func, 1, (.nilFunc)⟩
theorem ty190_ok : TIok Tryz.prog 190 ty190 := ⟨by kernel_rfl, by kernel_rfl, by kernel_rfl⟩
def ty191 : TI := ⟨.func, 1, (.nilFunc)⟩
theorem ty191_ok : TIok Tryz.prog 191 ty191 := ⟨by kernel_rfl, by kernel_rfl, by kernel_rfl⟩
def ty192 : TI := ⟨.arr 32 5 1, 32, (.agg (List.replicate 32 (.int .u8 0) : List Value).toArray)⟩
theorem ty192_ok : TIok Tryz.prog 192 ty192 := ⟨by kernel_rfl, by kernel_rfl, by kernel_rfl⟩
def ty193 : TI := ⟨.arr 64 5 1, 64, (.agg (List.replicate 64 (.int .u8 0) : List Value).toArray)⟩
theorem ty193_ok : TIok Tryz.prog 193 ty193 := ⟨by kernel_rfl, by kernel_rfl, by kernel_rfl⟩
def ty194 : TI := ⟨.ptr 90, 1, (.pointer none)⟩
theorem ty194_ok : TIok Tryz.prog 194 ty194 := ⟨by kernel_rfl, by kernel_rfl, by kernel_rfl⟩
def ty195 : TI := ⟨.arr 12 185 5, 60, (.agg ([.string ⟨#[]⟩] ++ List.replicate 3 (.nilFunc) ++ [.bool false] ++ [.string ⟨#[]⟩] ++ List.replicate 3 (.nilFunc) ++ [.bool false] ++ [.string ⟨#[]⟩] ++ List.replicate 3 (.nilFunc) ++ [.bool false] ++ [.string ⟨#[]⟩] ++ List.replicate 3 (.nilFunc) ++ [.bool false] ++ [.string ⟨#[]⟩] ++ List.replicate 3 (.nilFunc) ++ [.bool false] ++ [.string ⟨#[]⟩] ++ List.replicate 3 (.nilFunc) ++ [.bool false] ++ [.string ⟨#[]⟩] ++ List.replicate 3 (.nilFunc) ++ [.bool false] ++ [.string ⟨#[]⟩] ++ List.replicate 3 (.nilFunc) ++ [.bool false] ++ [.string ⟨#[]⟩] ++ List.replicate 3 (.nilFunc) ++ [.bool false] ++ [.string ⟨#[]⟩] ++ List.replicate 3 (.nilFunc) ++ [.bool false] ++ [.string ⟨#[]⟩] ++ List.replicate 3 (.nilFunc) ++ [.bool false] ++ [.string ⟨#[]⟩] ++ List.replicate 3 (.nilFunc) ++ [.bool false] : List Value).toArray)⟩
theorem ty195_ok : TIok Tryz.prog 195 ty195 := ⟨by kernel_rfl, by kernel_rfl, by kernel_rfl⟩
def ty196 : TI := ⟨.func, 1, (.nilFunc)⟩
theorem ty196_ok : TIok Tryz.prog 196 ty196 := ⟨by kernel_rfl, by kernel_rfl, by kernel_rfl⟩
def ty197 : TI := ⟨.func, 1, (.nilFunc)⟩
theorem ty197_ok : TIok Tryz.prog 197 ty197 := ⟨by kernel_rfl, by kernel_rfl, by kernel_rfl⟩
def ty198 : TI := ⟨.func, 1, (.nilFunc)⟩
theorem ty198_ok : TIok Tryz.prog 198 ty198 := ⟨by kernel_rfl, by kernel_rfl, by kernel_rfl⟩
def ty199 : TI := ⟨.func, 1, (.nilFunc)⟩
theorem ty199_ok : TIok Tryz.prog 199 ty199 := ⟨by kernel_rfl, by kernel_rfl, by kernel_rfl⟩
def ty200 : TI := ⟨.func, 1, (.nilFunc)⟩
theorem ty200_ok : TIok Tryz.prog 200 ty200 := ⟨by kernel_rfl, by kernel_rfl, by kernel_rfl⟩
def ty201 : TI := ⟨.func, 1, (.nilFunc)⟩
theorem ty201_ok : TIok Tryz.prog 201 ty201 := ⟨by kernel_rfl, by kernel_rfl, by kernel_rfl⟩
def ty202 : TI := ⟨.func, 1, (.nilFunc)⟩
theorem ty202_ok : TIok Tryz.prog 202 ty202 := ⟨by kernel_rfl, by kernel_rfl, by kernel_rfl⟩
def ty203 : TI := ⟨.func, 1, (.nilFunc)⟩
theorem ty203_ok : TIok Tryz.prog 203 ty203 := ⟨by kernel_rfl, by kernel_rfl, by kernel_rfl⟩
def ty204 : TI := ⟨.func, 1, (.nilFunc)⟩
theorem ty204_ok : TIok Tryz.prog 204 ty204 := ⟨by kernel_rfl, by kernel_rfl, by kernel_rfl⟩
def ty205 : TI := ⟨.func, 1, (.nilFunc)⟩
theorem ty205_ok : TIok Tryz.prog 205 ty205 := ⟨by kernel_rfl, by kernel_rfl, by kernel_rfl⟩
def ty206 : TI := ⟨.func, 1, (.nilFunc)⟩
theorem ty206_ok : TIok Tryz.prog 206 ty206 := ⟨by kernel_rfl, by kernel_rfl, by kernel_rfl⟩
def ty207 : TI := ⟨.func, 1, (.nilFunc)⟩
theorem ty207_ok : TIok Tryz.prog 207 ty207 := ⟨by kernel_rfl, by kernel_rfl, by kernel_rfl⟩
def ty208 : TI := ⟨.struct [(3, 0, 1), (3, 1, 1)], 2, (.agg #[.int .i64 0, .int .i64 0])⟩
theorem ty208_ok : TIok Tryz.prog 208 ty208 := ⟨by kernel_rfl, by kernel_rfl, by kernel_rfl⟩
def ty209 : TI := ⟨.struct [(3, 0, 1), (3, 1, 1)], 2, (.agg #[.int .i64 0, .int .i64 0])⟩
theorem ty209_ok : TIok Tryz.prog 209 ty209 := ⟨by kernel_rfl, by kernel_rfl, by kernel_rfl⟩
def ty210 : TI := ⟨.struct [(209, 0, 2), (90, 2, 9)], 11, (.agg #[.int .i64 0, .int .i64 0, .int .i64 0, .int .i64 0, .int .u8 0, .int .i64 0, .int .i64 0, .int .i64 0, .int .i64 0, .int .i64 0, .string ⟨#[]⟩])⟩
theorem ty210_ok : TIok Tryz.prog 210 ty210 := ⟨by kernel_rfl, by kernel_rfl, by kernel_rfl⟩
def ty211 : TI := ⟨.struct [(209, 0, 2), (90, 2, 9)], 11, (.agg #[.int .i64 0, .int .i64 0, .int .i64 0, .int .i64 0, .int .u8 0, .int .i64 0, .int .i64 0, .int .i64 0, .int .i64 0, .int .i64 0, .string ⟨#[]⟩])⟩
theorem ty211_ok : TIok Tryz.prog 211 ty211 := ⟨by kernel_rfl, by kernel_rfl, by kernel_rfl⟩
def ty212 : TI := ⟨.func, 1, (.nilFunc)⟩
theorem ty212_ok : TIok Tryz.prog 212 ty212 := ⟨by kernel_rfl, by kernel_rfl, by kernel_rfl⟩
def ty213 : TI := ⟨.func, 1, (.nilFunc)⟩
theorem ty213_ok : TIok Tryz.prog 213 ty213 := ⟨by kernel_rfl, by kernel_rfl, by kernel_rfl⟩
def ty214 : TI := ⟨.func, 1, (.nilFunc)⟩
theorem ty214_ok : TIok Tryz.prog 214 ty214 := ⟨by kernel_rfl, by kernel_rfl, by kernel_rfl⟩
def ty215 : TI := ⟨.func, 1, (.nilFunc)⟩
theorem ty215_ok : TIok Tryz.prog 215 ty215 := ⟨by kernel_rfl, by kernel_rfl, by kernel_rfl⟩
def ty216 : TI := ⟨.func, 1, (.nilFunc)⟩
theorem ty216_ok : TIok Tryz.prog 216 ty216 := ⟨by kernel_rfl, by kernel_rfl, by kernel_rfl⟩
def ty217 : TI := ⟨.int .i64, 1, (.int .i64 0)⟩
theorem ty217_ok : TIok Tryz.prog 217 ty217 := ⟨by kernel_rfl, by kernel_rfl, by kernel_rfl⟩
def ty219 : TI := ⟨.func, 1, (.nilFunc)⟩
theorem ty219_ok : TIok Tryz.prog 219 ty219 := ⟨by kernel_rfl, by kernel_rfl, by kernel_rfl⟩
def ty220 : TI := ⟨.func, 1, (.nilFunc)⟩
theorem ty220_ok : TIok Tryz.prog 220 ty220 := ⟨by kernel_rfl, by kernel_rfl, by kernel_rfl⟩
def ty221 : TI := ⟨.func, 1, (.nilFunc)⟩
theorem ty221_ok : TIok Tryz.prog 221 ty221 := ⟨by kernel_rfl, by kernel_rfl, by kernel_rfl⟩
def ty222 : TI := ⟨.func, 1, (.nilFunc)⟩
theorem ty222_ok : TIok Tryz.prog 222 ty222 := ⟨by kernel_rfl, by kernel_rfl, by kernel_rfl⟩
def ty223 : TI := ⟨.func, 1, (.nilFunc)⟩
theorem ty223_ok : TIok Tryz.prog 223 ty223 := ⟨by kernel_rfl, by kernel_rfl, by kernel_rfl⟩
def ty224 : TI := ⟨.int .u64, 1, (.int .u64 0)⟩
theorem ty224_ok : TIok Tryz.prog 224 ty224 := ⟨by kernel_rfl, by kernel_rfl, by kernel_rfl⟩
def ty225 : TI := ⟨.func, 1, (.nilFunc)⟩
theorem ty225_ok : TIok Tryz.prog 225 ty225 := ⟨by kernel_rfl, by kernel_rfl, by kernel_rfl⟩
def ty226 : TI := ⟨.func, 1, (.nilFunc)⟩
theorem ty226_ok : TIok Tryz.prog 226 ty226 := ⟨by kernel_rfl, by kernel_rfl, by kernel_rfl⟩
def ty227 : TI := ⟨.func, 1, (.nilFunc)⟩
theorem ty227_ok : TIok Tryz.prog 227 ty227 := ⟨by kernel_rfl, by kernel_rfl, by kernel_rfl⟩
def ty228 : TI := ⟨.func, 1, (.nilFunc)⟩
theorem ty228_ok : TIok Tryz.prog 228 ty228 := ⟨by kernel_rfl, by kernel_rfl, by kernel_rfl⟩
def ty229 : TI := ⟨.ptr 224, 1, (.pointer none)⟩
theorem ty229_ok : TIok Tryz.prog 229 ty229 := ⟨by kernel_rfl, by kernel_rfl, by kernel_rfl⟩
def ty231 : TI := ⟨.func, 1, (.nilFunc)⟩
theorem ty231_ok : TIok Tryz.prog 231 ty231 := ⟨by kernel_rfl, by kernel_rfl, by kernel_rfl⟩
def ty232 : TI := ⟨.struct [(17, 0, 1), (17, 1, 1), (17, 2, 1), (9, 3, 1)], 4, (.agg #[.pointer none, .pointer none, .pointer none, .string ⟨#[]⟩])⟩
theorem ty232_ok : TIok Tryz.prog 232 ty232 := ⟨by kernel_rfl, by kernel_rfl, by kernel_rfl⟩
def ty233 : TI := ⟨.struct [(17, 0, 1), (17, 1, 1), (17, 2, 1), (9, 3, 1)], 4, (.agg #[.pointer none, .pointer none, .pointer none, .string ⟨#[]⟩])⟩
theorem ty233_ok : TIok Tryz.prog 233 ty233 := ⟨by kernel_rfl, by kernel_rfl, by kernel_rfl⟩
def ty237 : TI := ⟨.int .u8, 1, (.int .u8 0)⟩
theorem ty237_ok : TIok Tryz.prog 237 ty237 := ⟨by kernel_rfl, by kernel_rfl, by kernel_rfl⟩
def ty238 : TI := ⟨.int .u8, 1, (.int .u8 0)⟩
theorem ty238_ok : TIok Tryz.prog 238 ty238 := ⟨by kernel_rfl, by kernel_rfl, by kernel_rfl⟩
def ty239 : TI := ⟨.func, 1, (.nilFunc)⟩
theorem ty239_ok : TIok Tryz.prog 239 ty239 := ⟨by kernel_rfl, by kernel_rfl, by kernel_rfl⟩
def ty240 : TI := ⟨.int .i32, 1, (.int .i32 0)⟩
theorem ty240_ok : TIok Tryz.prog 240 ty240 := ⟨by kernel_rfl, by kernel_rfl, by kernel_rfl⟩
def ty241 : TI := ⟨.int .i32, 1, (.int .i32 0)⟩
theorem ty241_ok : TIok Tryz.prog 241 ty241 := ⟨by kernel_rfl, by kernel_rfl, by kernel_rfl⟩
def ty242 : TI := ⟨.struct [(12, 0, 1), (12, 1, 1), (161, 2, 1), (237, 3, 1), (5, 4, 1), (5, 5, 1), (238, 6, 1), (239, 7, 1), (168, 8, 1), (240, 9, 1), (241, 10, 1)], 11, (.agg #[.int .u64 0, .int .u64 0, .int .u32 0, .int .u8 0, .int .u8 0, .int .u8 0, .int .u8 0, .nilFunc, .pointer none, .int .i32 0, .int .i32 0])⟩
theorem ty242_ok : TIok Tryz.prog 242 ty242 := ⟨by kernel_rfl, by kernel_rfl, by kernel_rfl⟩
def ty243 : TI := ⟨.struct [(12, 0, 1), (12, 1, 1), (161, 2, 1), (237, 3, 1), (5, 4, 1), (5, 5, 1), (238, 6, 1), (239, 7, 1), (168, 8, 1), (240, 9, 1), (241, 10, 1)], 11, (.agg #[.int .u64 0, .int .u64 0, .int .u32 0, .int .u8 0, .int .u8 0, .int .u8 0, .int .u8 0, .nilFunc, .pointer none, .int .i32 0, .int .i32 0])⟩
theorem ty243_ok : TIok Tryz.prog 243 ty243 := ⟨by kernel_rfl, by kernel_rfl, by kernel_rfl⟩
def tab : List (Nat × TI) := [(1, ty1), (2, ty2), (3, ty3), (4, ty4), (5, ty5), (6, ty6), (7, ty7), (8, ty8), (9, ty9), (10, ty10), (11, ty11), (12, ty12), (13, ty13), (14, ty14), (15, ty15), (16, ty16), (17, ty17), (18, ty18), (19, ty19), (20, ty20), (21, ty21), (22, ty22), (23, ty23), (24, ty24), (25, ty25), (26, ty26), (27, ty27), (28, ty28), (29, ty29), (31, ty31), (33, ty33), (34, ty34), (35, ty35), (36, ty36), (37, ty37), (38, ty38), (40, ty40), (41, ty41), (42, ty42), (43, ty43), (44, ty44), (45, ty45), (46, ty46), (47, ty47), (48, ty48), (49, ty49), (50, ty50), (51, ty51), (52, ty52), (53, ty53), (54, ty54), (55, ty55), (56, ty56), (57, ty57), (58, ty58), (59, ty59), (60, ty60), (61, ty61), (62, ty62), (63, ty63), (64, ty64), (65, ty65), (66, ty66), (71, ty71), (72, ty72), (73, ty73), (74, ty74), (76, ty76), (77, ty77), (78, ty78), (79, ty79), (80, ty80), (81, ty81), (82, ty82), (83, ty83), (84, ty84), (85, ty85), (86, ty86), (87, ty87), (88, ty88), (89, ty89), (90, ty90), (91, ty91), (92, ty92), (93, ty93), (94, ty94), (95, ty95), (96, ty96), (97, ty97), (98, ty98), (99, ty99), (100, ty100), (101, ty101), (102, ty102), (103, ty103), (104, ty104), (105, ty105), (106, ty106), (107, ty107), (108, ty108), (109, ty109), (110, ty110), (111, ty111), (112, ty112), (113, ty113), (114, ty114), (115, ty115), (116, ty116), (117, ty117), (118, ty118), (119, ty119), (120, ty120), (121, ty121), (122, ty122), (123, ty123), (124, ty124), (125, ty125), (126, ty126), (128, ty128), (129, ty129), (130, ty130), (131, ty131), (132, ty132), (133, ty133), (134, ty134), (135, ty135), (136, ty136), (137, ty137), (138, ty138), (139, ty139), (140, ty140), (141, ty141), (142, ty142), (144, ty144), (145, ty145), (146, ty146), (147, ty147), (149, ty149), (150, ty150), (151, ty151), (152, ty152), (153, ty153), (155, ty155), (156, ty156), (157, ty157), (158, ty158), (159, ty159), (160, ty160), (161, ty161), (162, ty162), (163, ty163), (165, ty165), (166, ty166), (167, ty167), (168, ty168), (169, ty169), (170, ty170), (171, ty171), (172, ty172), (173, ty173), (174, ty174), (175, ty175), (176, ty176), (177, ty177), (178, ty178), (179, ty179), (180, ty180), (181, ty181), (182, ty182), (183, ty183), (184, ty184), (185, ty185), (187, ty187), (188, ty188), (189, ty189), (190, ty190), (191, ty191), (192, ty192), (193, ty193), (194, ty194), (195, ty195), (196, ty196), (197, ty197), (198, ty198), (199, ty199), (200, ty200), (201, ty201), (202, ty202), (203, ty203), (204, ty204), (205, ty205), (206, ty206), (207, ty207), (208, ty208), (209, ty209), (210, ty210), (211, ty211), (212, ty212), (213, ty213), (214, ty214), (215, ty215), (216, ty216), (217, ty217), (219, ty219), (220, ty220), (221, ty221), (222, ty222), (223, ty223), (224, ty224), (225, ty225), (226, ty226), (227, ty227), (228, ty228), (229, ty229), (231, ty231), (232, ty232), (233, ty233), (237, ty237), (238, ty238), (239, ty239), (240, ty240), (241, ty241), (242, ty242), (243, ty243)]
noncomputable def C : Cfg := ⟨Tryz.prog, tab, 3, 193, [102, 117], true, []⟩
theorem funs_ok : (List.range' 3 190).all (fun g => !C.can g || callable Tryz.prog g) = true := by kernel_rfl
set_option maxRecDepth 100000 in
theorem tab_ok : ∀ e ∈ tab, TIok Tryz.prog e.1 e.2 := List.forall_mem_cons.2 ⟨ty1_ok, List.forall_mem_cons.2 ⟨ty2_ok, List.forall_mem_cons.2 ⟨ty3_ok, List.forall_mem_cons.2 ⟨ty4_ok, List.forall_mem_cons.2 ⟨ty5_ok, List.forall_mem_cons.2 ⟨ty6_ok, List.forall_mem_cons.2 ⟨ty7_ok, List.forall_mem_cons.2 ⟨ty8_ok, List.forall_mem_cons.2 ⟨ty9_ok, List.forall_mem_cons.2 ⟨ty10_ok, List.forall_mem_cons.2 ⟨ty11_ok, List.forall_mem_cons.2 ⟨ty12_ok, List.forall_mem_cons.2 ⟨ty13_ok, List.forall_mem_cons.2 ⟨ty14_ok, List.forall_mem_cons.2 ⟨ty15_ok, List.forall_mem_cons.2 ⟨ty16_ok, List.forall_mem_cons.2 ⟨ty17_ok, List.forall_mem_cons.2 ⟨ty18_ok, List.forall_mem_cons.2 ⟨ty19_ok, List.forall_mem_cons.2 ⟨ty20_ok, List.forall_mem_cons.2 ⟨ty21_ok, List.forall_mem_cons.2 ⟨ty22_ok, List.forall_mem_cons.2 ⟨ty23_ok, List.forall_mem_cons.2 ⟨ty24_ok, List.forall_mem_cons.2 ⟨ty25_ok, List.forall_mem_cons.2 ⟨ty26_ok, List.forall_mem_cons.2 ⟨ty27_ok, List.forall_mem_cons.2 ⟨ty28_ok, List.forall_mem_cons.2 ⟨ty29_ok, List.forall_mem_cons.2 ⟨ty31_ok, List.forall_mem_cons.2 ⟨ty33_ok, List.forall_mem_cons.2 ⟨ty34_ok, List.forall_mem_cons.2 ⟨ty35_ok, List.forall_mem_cons.2 ⟨ty36_ok, List.forall_mem_cons.2 ⟨ty37_ok, List.forall_mem_cons.2 ⟨ty38_ok, List.forall_mem_cons.2 ⟨ty40_ok, List.forall_mem_cons.2 ⟨ty41_ok, List.forall_mem_cons.2 ⟨ty42_ok, List.forall_mem_cons.2 ⟨ty43_ok, List.forall_mem_cons.2 ⟨ty44_ok, List.forall_mem_cons.2 ⟨ty45_ok, List.forall_mem_cons.2 ⟨ty46_ok, List.forall_mem_cons.2 ⟨ty47_ok, List.forall_mem_cons.2 ⟨ty48_ok, List.forall_mem_cons.2 ⟨ty49_ok, List.forall_mem_cons.2 ⟨ty50_ok, List.forall_mem_cons.2 ⟨ty51_ok, List.forall_mem_cons.2 ⟨ty52_ok, List.forall_mem_cons.2 ⟨ty53_ok, List.forall_mem_cons.2 ⟨ty54_ok, List.forall_mem_cons.2 ⟨ty55_ok, List.forall_mem_cons.2 ⟨ty56_ok, List.forall_mem_cons.2 ⟨ty57_ok, List.forall_mem_cons.2 ⟨ty58_ok, List.forall_mem_cons.2 ⟨ty59_ok, List.forall_mem_cons.2 ⟨ty60_ok, List.forall_mem_cons.2 ⟨ty61_ok, List.forall_mem_cons.2 ⟨ty62_ok, List.forall_mem_cons.2 ⟨ty63_ok, List.forall_mem_cons.2 ⟨ty64_ok, List.forall_mem_cons.2 ⟨ty65_ok, List.forall_mem_cons.2 ⟨ty66_ok, List.forall_mem_cons.2 ⟨ty71_ok, List.forall_mem_cons.2 ⟨ty72_ok, List.forall_mem_cons.2 ⟨ty73_ok, List.forall_mem_cons.2 ⟨ty74_ok, List.forall_mem_cons.2 ⟨ty76_ok, List.forall_mem_cons.2 ⟨ty77_ok, List.forall_mem_cons.2 ⟨ty78_ok, List.forall_mem_cons.2 ⟨ty79_ok, List.forall_mem_cons.2 ⟨ty80_ok, List.forall_mem_cons.2 ⟨ty81_ok, List.forall_mem_cons.2 ⟨ty82_ok, List.forall_mem_cons.2 ⟨ty83_ok, List.forall_mem_cons.2 ⟨ty84_ok, List.forall_mem_cons.2 ⟨ty85_ok, List.forall_mem_cons.2 ⟨ty86_ok, List.forall_mem_cons.2 ⟨ty87_ok, List.forall_mem_cons.2 ⟨ty88_ok, List.forall_mem_cons.2 ⟨ty89_ok, List.forall_mem_cons.2 ⟨ty90_ok, List.forall_mem_cons.2 ⟨ty91_ok, List.forall_mem_cons.2 ⟨ty92_ok, List.forall_mem_cons.2 ⟨ty93_ok, List.forall_mem_cons.2 ⟨ty94_ok, List.forall_mem_cons.2 ⟨ty95_ok, List.forall_mem_cons.2 ⟨ty96_ok, List.forall_mem_cons.2 ⟨ty97_ok, List.forall_mem_cons.2 ⟨ty98_ok, List.forall_mem_cons.2 ⟨ty99_ok, List.forall_mem_cons.2 ⟨ty100_ok, List.forall_mem_cons.2 ⟨ty101_ok, List.forall_mem_cons.2 ⟨ty102_ok, List.forall_mem_cons.2 ⟨ty103_ok, List.forall_mem_cons.2 ⟨ty104_ok, List.forall_mem_cons.2 ⟨ty105_ok, List.forall_mem_cons.2 ⟨ty106_ok, List.forall_mem_cons.2 ⟨ty107_ok, List.forall_mem_cons.2 ⟨ty108_ok, List.forall_mem_cons.2 ⟨ty109_ok, List.forall_mem_cons.2 ⟨ty110_ok, List.forall_mem_cons.2 ⟨ty111_ok, List.forall_mem_cons.2 ⟨ty112_ok, List.forall_mem_cons.2 ⟨ty113_ok, List.forall_mem_cons.2 ⟨ty114_ok, List.forall_mem_cons.2 ⟨ty115_ok, List.forall_mem_cons.2 ⟨ty116_ok, List.forall_mem_cons.2 ⟨ty117_ok, List.forall_mem_cons.2 ⟨ty118_ok, List.forall_mem_cons.2 ⟨ty119_ok, List.forall_mem_cons.2 ⟨ty120_ok, List.forall_mem_cons.2 ⟨ty121_ok, List.forall_mem_cons.2 ⟨ty122_ok, List.forall_mem_cons.2 ⟨ty123_ok, List.forall_mem_cons.2 ⟨ty124_ok, List.forall_mem_cons.2 ⟨ty125_ok, List.forall_mem_cons.2 ⟨ty126_ok, List.forall_mem_cons.2 ⟨ty128_ok, List.forall_mem_cons.2 ⟨ty129_ok, List.forall_mem_cons.2 ⟨ty130_ok, List.forall_mem_cons.2 ⟨ty131_ok, List.forall_mem_cons.2 ⟨ty132_ok, List.forall_mem_cons.2 ⟨ty133_ok, List.forall_mem_cons.2 ⟨ty134_ok, List.forall_mem_cons.2 ⟨ty135_ok, List.forall_mem_cons.2 ⟨ty136_ok, List.forall_mem_cons.2 ⟨ty137_ok, List.forall_mem_cons.2 ⟨ty138_ok, List.forall_mem_cons.2 ⟨ty139_ok, List.forall_mem_cons.2 ⟨ty140_ok, List.forall_mem_cons.2 ⟨ty141_ok, List.forall_mem_cons.2 ⟨ty142_ok, List.forall_mem_cons.2 ⟨ty144_ok, List.forall_mem_cons.2 ⟨ty145_ok, List.forall_mem_cons.2 ⟨ty146_ok, List.forall_mem_cons.2 ⟨ty147_ok, List.forall_mem_cons.2 ⟨ty149_ok, List.forall_mem_cons.2 ⟨ty150_ok, List.forall_mem_cons.2 ⟨ty151_ok, List.forall_mem_cons.2 ⟨ty152_ok, List.forall_mem_cons.2 ⟨ty153_ok, List.forall_mem_cons.2 ⟨ty155_ok, List.forall_mem_cons.2 ⟨ty156_ok, List.forall_mem_cons.2 ⟨ty157_ok, List.forall_mem_cons.2 ⟨ty158_ok, List.forall_mem_cons.2 ⟨ty159_ok, List.forall_mem_cons.2 ⟨ty160_ok, List.forall_mem_cons.2 ⟨ty161_ok, List.forall_mem_cons.2 ⟨ty162_ok, List.forall_mem_cons.2 ⟨ty163_ok, List.forall_mem_cons.2 ⟨ty165_ok, List.forall_mem_cons.2 ⟨ty166_ok, List.forall_mem_cons.2 ⟨ty167_ok, List.forall_mem_cons.2 ⟨ty168_ok, List.forall_mem_cons.2 ⟨ty169_ok, List.forall_mem_cons.2 ⟨ty170_ok, List.forall_mem_cons.2 ⟨ty171_ok, List.forall_mem_cons.2 ⟨ty172_ok, List.forall_mem_cons.2 ⟨ty173_ok, List.forall_mem_cons.2 ⟨ty174_ok, List.forall_mem_cons.2 ⟨ty175_ok, List.forall_mem_cons.2 ⟨ty176_ok, List.forall_mem_cons.2 ⟨ty177_ok, List.forall_mem_cons.2 ⟨ty178_ok, List.forall_mem_cons.2 ⟨ty179_ok, List.forall_mem_cons.2 ⟨ty180_ok, List.forall_mem_cons.2 ⟨ty181_ok, List.forall_mem_cons.2 ⟨ty182_ok, List.forall_mem_cons.2 ⟨ty183_ok, List.forall_mem_cons.2 ⟨ty184_ok, List.forall_mem_cons.2 ⟨ty185_ok, List.forall_mem_cons.2 ⟨ty187_ok, List.forall_mem_cons.2 ⟨ty188_ok, List.forall_mem_cons.2 ⟨ty189_ok, List.forall_mem_cons.2 ⟨ty190_ok, List.forall_mem_cons.2 ⟨ty191_ok, List.forall_mem_cons.2 ⟨ty192_ok, List.forall_mem_cons.2 ⟨ty193_ok, List.forall_mem_cons.2 ⟨ty194_ok, List.forall_mem_cons.2 ⟨ty195_ok, List.forall_mem_cons.2 ⟨ty196_ok, List.forall_mem_cons.2 ⟨ty197_ok, List.forall_mem_cons.2 ⟨ty198_ok, List.forall_mem_cons.2 ⟨ty199_ok, List.forall_mem_cons.2 ⟨ty200_ok, List.forall_mem_cons.2 ⟨ty201_ok, List.forall_mem_cons.2 ⟨ty202_ok, List.forall_mem_cons.2 ⟨ty203_ok, List.forall_mem_cons.2 ⟨ty204_ok, List.forall_mem_cons.2 ⟨ty205_ok, List.forall_mem_cons.2 ⟨ty206_ok, List.forall_mem_cons.2 ⟨ty207_ok, List.forall_mem_cons.2 ⟨ty208_ok, List.forall_mem_cons.2 ⟨ty209_ok, List.forall_mem_cons.2 ⟨ty210_ok, List.forall_mem_cons.2 ⟨ty211_ok, List.forall_mem_cons.2 ⟨ty212_ok, List.forall_mem_cons.2 ⟨ty213_ok, List.forall_mem_cons.2 ⟨ty214_ok, List.forall_mem_cons.2 ⟨ty215_ok, List.forall_mem_cons.2 ⟨ty216_ok, List.forall_mem_cons.2 ⟨ty217_ok, List.forall_mem_cons.2 ⟨ty219_ok, List.forall_mem_cons.2 ⟨ty220_ok, List.forall_mem_cons.2 ⟨ty221_ok, List.forall_mem_cons.2 ⟨ty222_ok, List.forall_mem_cons.2 ⟨ty223_ok, List.forall_mem_cons.2 ⟨ty224_ok, List.forall_mem_cons.2 ⟨ty225_ok, List.forall_mem_cons.2 ⟨ty226_ok, List.forall_mem_cons.2 ⟨ty227_ok, List.forall_mem_cons.2 ⟨ty228_ok, List.forall_mem_cons.2 ⟨ty229_ok, List.forall_mem_cons.2 ⟨ty231_ok, List.forall_mem_cons.2 ⟨ty232_ok, List.forall_mem_cons.2 ⟨ty233_ok, List.forall_mem_cons.2 ⟨ty237_ok, List.forall_mem_cons.2 ⟨ty238_ok, List.forall_mem_cons.2 ⟨ty239_ok, List.forall_mem_cons.2 ⟨ty240_ok, List.forall_mem_cons.2 ⟨ty241_ok, List.forall_mem_cons.2 ⟨ty242_ok, List.forall_mem_cons.2 ⟨ty243_ok, (fun _ h => nomatch h)⟩⟩⟩⟩⟩⟩⟩⟩⟩⟩⟩⟩⟩⟩⟩⟩⟩⟩⟩⟩⟩⟩⟩⟩⟩⟩⟩⟩⟩⟩⟩⟩⟩⟩⟩⟩⟩⟩⟩⟩⟩⟩⟩⟩⟩⟩⟩⟩⟩⟩⟩⟩⟩⟩⟩⟩⟩⟩⟩⟩⟩⟩⟩⟩⟩⟩⟩⟩⟩⟩⟩⟩⟩⟩⟩⟩⟩⟩⟩⟩⟩⟩⟩⟩⟩⟩⟩⟩⟩⟩⟩⟩⟩⟩⟩⟩⟩⟩⟩⟩⟩⟩⟩⟩⟩⟩⟩⟩⟩⟩⟩⟩⟩⟩⟩⟩⟩⟩⟩⟩⟩⟩⟩⟩⟩⟩⟩⟩⟩⟩⟩⟩⟩⟩⟩⟩⟩⟩⟩⟩⟩⟩⟩⟩⟩⟩⟩⟩⟩⟩⟩⟩⟩⟩⟩⟩⟩⟩⟩⟩⟩⟩⟩⟩⟩⟩⟩⟩⟩⟩⟩⟩⟩⟩⟩⟩⟩⟩⟩⟩⟩⟩⟩⟩⟩⟩⟩⟩⟩⟩⟩⟩⟩⟩⟩⟩⟩⟩⟩⟩⟩⟩⟩⟩⟩⟩⟩⟩⟩⟩⟩⟩⟩⟩⟩⟩⟩⟩⟩⟩⟩⟩⟩⟩
theorem C_ok : C.Ok where
  mixed := by kernel_rfl
  types := tab_ok
  funcs := fun f h => by
    have h1 : 3 ≤ f ∧ f < 193 := by
      unfold Cfg.can at h
      simp only [Bool.and_eq_true] at h
      exact ⟨Nat.le_of_ble_eq_true h.1, Eq.mp Nat.blt_eq h.2.1⟩
    have h2 := List.all_eq_true.1 funs_ok f (List.mem_range'_1.2 ⟨h1.1, by omega⟩)
    rw [h, Bool.not_true, Bool.false_or] at h2
    exact h2
noncomputable def Cw : Cfg := ⟨Tryz.prog, tab, 3, 193, [102, 117], false, []⟩
theorem Cw_ok : Cw.Ok := ⟨C_ok.mixed, C_ok.types, C_ok.funcs⟩
def plans5 : List (Nat × PlanT) := [(3, .op 0 3 (.op 1 0 (.op 5 3 (.op 6 0 (.op 2 1 (.op 3 3 (.op 4 1 (.op 7 3 (.op 8 0 (.op 9 3 (.op 10 3 (.done))))))))))))]
def plans7 : List (Nat × PlanT) := [(21, .op 0 3 (.op 1 3 (.op 2 3 (.op 3 3 (.op 4 3 (.op 5 3 (.op 6 3 (.op 7 3 (.op 8 3 (.op 9 3 (.op 10 3 (.op 11 3 (.op 12 3 (.op 13 3 (.op 14 3 (.op 15 3 (.op 16 3 (.op 17 3 (.op 18 3 (.op 19 3 (.op 20 3 (.op 21 3 (.op 22 3 (.op 23 3 (.op 26 3 (.op 24 2 (.op 25 0 (.done)))))))))))))))))))))))))))), (32, .op 0 3 (.op 1 3 (.op 2 3 (.op 3 3 (.op 4 3 (.op 5 3 (.op 6 3 (.op 7 3 (.op 8 3 (.op 9 3 (.op 10 3 (.op 11 3 (.op 12 3 (.op 13 3 (.op 14 3 (.op 17 3 (.op 15 2 (.op 16 0 (.done)))))))))))))))))))]
def plans8 : List (Nat × PlanT) := [(24, .op 0 3 (.op 1 3 (.op 2 0 (.op 3 3 (.op 4 3 (.op 5 3 (.op 6 0 (.op 7 3 (.op 8 3 (.op 9 0 (.op 10 3 (.op 11 3 (.op 12 0 (.op 13 3 (.op 14 3 (.op 15 0 (.op 16 3 (.op 17 3 (.op 18 0 (.op 19 3 (.op 20 3 (.op 21 0 (.op 22 3 (.op 23 3 (.op 24 0 (.op 25 3 (.op 26 3 (.op 27 2 (.done))))))))))))))))))))))))))))), (32, .op 0 3 (.op 1 3 (.op 2 0 (.op 3 3 (.op 4 3 (.op 5 3 (.op 6 0 (.op 7 3 (.op 8 3 (.op 9 0 (.op 10 3 (.op 11 3 (.op 12 0 (.op 13 3 (.op 14 3 (.op 15 3 (.op 16 0 (.op 17 3 (.op 18 3 (.op 19 0 (.op 20 3 (.op 21 3 (.op 22 2 (.done))))))))))))))))))))))))]
def plans18 : List (Nat × PlanT) := [(7, .op 0 3 (.op 1 3 (.op 2 0 (.op 3 3 (.op 4 3 (.op 5 3 (.op 6 0 (.op 7 3 (.op 8 0 (.op 9 0 (.op 10 3 (.op 11 0 (.op 12 3 (.op 13 3 (.done)))))))))))))))]
def plans20 : List (Nat × PlanT) := [(5, .op 0 3 (.op 1 0 (.op 2 3 (.op 3 4 (.op 4 3 (.op 5 5 (.op 6 3 (.op 7 2 (.done))))))))), (8, .op 0 3 (.op 1 0 (.op 2 3 (.op 3 4 (.op 4 3 (.op 5 5 (.op 6 3 (.op 7 2 (.done)))))))))]
def plans23 : List (Nat × PlanT) := [(1, .op 0 3 (.op 1 0 (.op 2 3 (.op 3 4 (.fork (.op 4 1 (.op 5 1 (.op 6 5 (.op 7 2 (.done))))) (.op 5 1 (.op 4 1 (.op 6 5 (.op 7 2 (.done))))))))))]
def plans42 : List (Nat × PlanT) := [(1, .op 0 0 (.op 1 0 (.op 2 0 (.op 3 3 (.op 4 0 (.op 5 0 (.op 6 0 (.op 7 3 (.op 8 0 (.op 9 2 (.op 10 3 (.done))))))))))))]
def plans44 : List (Nat × PlanT) := [(4, .op 0 3 (.op 1 3 (.op 2 3 (.op 3 0 (.op 4 3 (.op 5 0 (.op 6 2 (.op 7 3 (.done))))))))), (7, .op 0 3 (.op 1 3 (.op 2 3 (.op 3 0 (.op 4 0 (.op 5 2 (.done))))))), (8, .op 0 3 (.op 1 3 (.op 2 3 (.op 3 3 (.op 4 0 (.op 5 0 (.op 6 1 (.op 7 2 (.op 8 3 (.op 9 3 (.op 10 2 (.done))))))))))))]
def plans58 : List (Nat × PlanT) := [(3, .op 0 3 (.op 1 3 (.op 2 3 (.op 3 3 (.op 4 3 (.op 5 3 (.op 6 0 (.op 7 3 (.op 8 3 (.op 9 3 (.op 10 3 (.op 11 3 (.done)))))))))))))]
def plans63 : List (Nat × PlanT) := [(3, .op 0 3 (.op 1 3 (.op 2 3 (.op 3 0 (.op 4 3 (.op 5 3 (.op 6 3 (.op 7 0 (.op 8 0 (.op 9 3 (.op 10 3 (.op 11 3 (.op 12 0 (.op 13 3 (.done)))))))))))))))]
def plans66 : List (Nat × PlanT) := [(1, .op 0 3 (.op 1 0 (.op 2 3 (.op 3 0 (.op 5 3 (.op 6 0 (.op 7 3 (.op 8 0 (.op 4 1 (.op 9 2 (.op 10 2 (.op 11 2 (.op 12 3 (.done))))))))))))))]
def plans73 : List (Nat × PlanT) := [(5, .op 0 3 (.op 1 0 (.op 2 3 (.op 3 1 (.op 4 3 (.op 5 3 (.done)))))))]
def plans74 : List (Nat × PlanT) := [(5, .op 0 3 (.op 1 3 (.op 2 0 (.op 3 3 (.op 4 3 (.op 5 3 (.op 6 0 (.op 7 0 (.op 8 3 (.done)))))))))), (7, .op 0 3 (.op 1 3 (.op 2 3 (.op 3 0 (.op 4 3 (.op 5 3 (.op 6 0 (.op 7 3 (.op 8 3 (.op 9 3 (.op 10 0 (.op 11 3 (.op 12 0 (.op 13 3 (.done))))))))))))))), (13, .op 0 3 (.op 1 3 (.op 2 0 (.op 3 3 (.op 4 3 (.op 5 3 (.op 6 0 (.op 7 0 (.op 8 3 (.done)))))))))), (15, .op 0 3 (.op 1 3 (.op 2 3 (.op 3 0 (.op 4 3 (.op 5 3 (.op 6 0 (.op 7 3 (.op 8 3 (.op 9 3 (.op 10 0 (.op 11 3 (.done)))))))))))))]
def plans85 : List (Nat × PlanT) := [(1, .op 0 3 (.op 1 3 (.op 2 3 (.op 3 0 (.op 4 3 (.op 5 0 (.op 6 3 (.op 7 0 (.op 8 2 (.done))))))))))]
def plans86 : List (Nat × PlanT) := [(1, .op 0 3 (.op 1 3 (.op 2 3 (.op 3 0 (.op 4 3 (.op 5 0 (.op 6 3 (.op 7 0 (.op 8 2 (.done))))))))))]
def plans87 : List (Nat × PlanT) := [(2, .op 0 3 (.op 1 3 (.op 2 3 (.op 3 3 (.op 4 0 (.op 5 0 (.op 6 1 (.op 7 2 (.op 8 3 (.op 9 3 (.op 10 2 (.done)))))))))))), (4, .op 0 3 (.op 1 3 (.op 2 3 (.op 3 0 (.op 4 0 (.op 5 0 (.op 6 3 (.op 7 3 (.op 8 3 (.op 9 3 (.op 10 3 (.done)))))))))))), (6, .op 0 3 (.op 1 3 (.op 2 3 (.op 3 0 (.op 4 0 (.op 5 2 (.done))))))), (7, .op 0 3 (.op 1 3 (.op 2 3 (.op 3 0 (.op 4 3 (.op 5 0 (.op 6 3 (.op 7 0 (.op 8 3 (.op 9 3 (.op 10 0 (.op 11 2 (.done)))))))))))))]
def plans88 : List (Nat × PlanT) := [(1, .op 0 3 (.op 1 3 (.op 2 3 (.op 3 0 (.op 4 3 (.op 5 3 (.op 6 0 (.op 7 3 (.op 8 3 (.op 9 3 (.done))))))))))), (2, .op 0 3 (.op 1 3 (.op 2 3 (.op 3 3 (.op 4 0 (.op 5 3 (.op 6 0 (.op 7 3 (.op 8 3 (.op 9 3 (.op 10 0 (.op 11 0 (.op 12 0 (.op 13 3 (.op 14 3 (.op 15 2 (.done)))))))))))))))))]
def plans89 : List (Nat × PlanT) := [(3, .op 0 3 (.op 1 3 (.op 2 3 (.op 3 3 (.op 4 0 (.op 5 0 (.op 6 1 (.op 7 2 (.op 8 3 (.op 9 3 (.op 10 2 (.done))))))))))))]
def plans90 : List (Nat × PlanT) := [(1, .op 0 3 (.op 1 3 (.op 2 3 (.op 3 0 (.op 4 3 (.op 5 3 (.op 6 0 (.op 7 3 (.op 8 3 (.op 9 3 (.done))))))))))), (2, .op 0 3 (.op 1 3 (.op 2 3 (.op 3 4 (.op 4 3 (.op 5 3 (.op 6 5 (.op 7 3 (.op 8 3 (.op 9 2 (.done))))))))))), (4, .op 0 3 (.op 1 3 (.op 2 3 (.op 3 0 (.op 4 3 (.op 5 3 (.op 6 3 (.op 7 0 (.op 8 0 (.op 9 3 (.op 10 3 (.op 11 3 (.op 12 0 (.op 13 3 (.op 14 2 (.done)))))))))))))))), (5, .op 0 3 (.op 1 3 (.op 2 3 (.op 3 0 (.op 4 3 (.op 5 3 (.op 6 3 (.op 7 0 (.op 8 3 (.op 9 3 (.op 10 3 (.done)))))))))))), (6, .op 0 3 (.op 1 3 (.op 2 3 (.op 3 0 (.op 4 3 (.op 5 3 (.op 6 3 (.op 7 0 (.op 8 0 (.op 9 3 (.op 10 3 (.op 11 3 (.op 12 0 (.op 13 3 (.done)))))))))))))))]
def plans91 : List (Nat × PlanT) := [(1, .op 0 3 (.op 1 3 (.op 2 3 (.op 3 0 (.op 4 3 (.op 5 3 (.op 6 0 (.op 7 3 (.op 8 3 (.op 9 3 (.done))))))))))), (2, .op 0 3 (.op 1 3 (.op 2 3 (.op 3 4 (.op 4 3 (.op 5 3 (.op 6 5 (.op 7 3 (.op 8 3 (.op 9 2 (.done)))))))))))]
def plans95 : List (Nat × PlanT) := [(3, .op 0 3 (.op 1 0 (.op 2 3 (.op 3 3 (.op 4 3 (.op 5 0 (.op 6 0 (.op 7 3 (.op 8 3 (.done)))))))))), (10, .op 0 3 (.op 1 3 (.op 2 3 (.op 3 0 (.op 4 3 (.op 5 0 (.op 6 3 (.op 7 0 (.op 8 3 (.op 9 0 (.op 10 3 (.op 11 3 (.op 12 3 (.op 13 3 (.op 14 3 (.done))))))))))))))))]
def plans96 : List (Nat × PlanT) := [(3, .op 0 3 (.op 1 0 (.op 2 3 (.op 3 3 (.op 4 3 (.op 5 0 (.op 6 0 (.op 7 3 (.op 8 3 (.op 9 3 (.done))))))))))), (5, .op 0 3 (.op 1 3 (.op 2 3 (.op 3 0 (.op 4 3 (.op 5 0 (.op 6 3 (.op 7 0 (.op 8 3 (.op 9 3 (.done))))))))))), (7, .op 0 3 (.op 1 0 (.op 2 3 (.op 3 3 (.op 4 3 (.op 5 0 (.op 6 0 (.op 7 3 (.op 8 3 (.done)))))))))), (10, .op 0 3 (.op 1 3 (.op 2 3 (.op 3 0 (.op 4 3 (.op 5 0 (.op 6 3 (.op 7 3 (.op 8 0 (.op 9 1 (.op 10 2 (.done)))))))))))), (13, .op 0 3 (.op 1 3 (.op 2 3 (.op 3 0 (.op 4 3 (.op 5 0 (.op 6 0 (.op 7 3 (.op 8 3 (.op 9 3 (.op 10 3 (.op 11 3 (.done)))))))))))))]
def plans108 : List (Nat × PlanT) := [(1, .op 0 3 (.op 1 0 (.op 2 3 (.op 3 3 (.op 4 3 (.op 5 0 (.op 6 3 (.op 7 0 (.op 8 3 (.op 9 0 (.op 10 3 (.op 11 3 (.done)))))))))))))]
def plans110 : List (Nat × PlanT) := [(8, .op 0 3 (.op 1 3 (.op 2 3 (.op 3 0 (.op 4 3 (.op 5 0 (.op 6 2 (.done)))))))), (10, .op 0 3 (.op 1 3 (.op 2 3 (.op 3 0 (.op 4 3 (.op 5 0 (.op 6 2 (.done))))))))]
def plans121 : List (Nat × PlanT) := [(4, .op 0 3 (.op 1 3 (.op 2 3 (.op 3 3 (.op 4 3 (.op 5 3 (.op 6 3 (.op 7 3 (.op 8 0 (.op 9 3 (.op 10 3 (.op 11 3 (.op 12 3 (.op 13 0 (.op 14 2 (.op 15 3 (.op 16 3 (.done)))))))))))))))))), (6, .op 0 3 (.op 1 3 (.op 2 3 (.op 3 3 (.op 4 3 (.op 5 3 (.op 6 3 (.op 7 3 (.op 8 3 (.op 9 0 (.op 10 3 (.op 11 3 (.op 12 3 (.op 13 0 (.op 14 3 (.op 15 2 (.op 16 3 (.op 17 2 (.done)))))))))))))))))))]
def plans123 : List (Nat × PlanT) := [(6, .op 0 3 (.op 1 3 (.op 2 3 (.op 3 0 (.op 4 3 (.op 5 3 (.op 6 3 (.op 7 0 (.op 8 3 (.op 9 3 (.op 10 3 (.op 11 0 (.op 12 3 (.op 13 3 (.op 14 3 (.done)))))))))))))))), (8, .op 0 3 (.op 1 3 (.op 2 3 (.op 3 0 (.op 4 3 (.op 5 0 (.op 6 0 (.op 7 3 (.done))))))))), (17, .op 0 3 (.op 1 0 (.op 2 3 (.op 3 3 (.op 4 3 (.op 5 3 (.op 6 3 (.op 7 0 (.op 8 3 (.op 9 0 (.op 10 0 (.op 11 3 (.op 12 3 (.done)))))))))))))), (19, .op 0 3 (.op 1 0 (.op 2 3 (.op 3 3 (.op 4 3 (.op 5 3 (.op 6 3 (.op 7 0 (.op 8 3 (.op 9 0 (.op 10 0 (.op 11 3 (.op 12 3 (.op 13 3 (.op 14 3 (.op 15 3 (.op 16 3 (.op 17 0 (.op 18 0 (.op 19 3 (.op 20 3 (.done))))))))))))))))))))))]
def plans141 : List (Nat × PlanT) := [(1, .op 0 3 (.op 1 3 (.op 2 3 (.op 3 3 (.op 4 3 (.op 5 3 (.op 6 3 (.op 7 3 (.op 8 3 (.op 9 3 (.op 10 3 (.op 11 3 (.op 12 3 (.op 13 3 (.op 14 3 (.op 15 2 (.op 16 3 (.done))))))))))))))))))]
def plans142 : List (Nat × PlanT) := [(1, .op 0 3 (.op 1 3 (.op 2 3 (.op 3 3 (.op 4 3 (.op 5 3 (.op 6 3 (.op 7 3 (.op 8 3 (.op 9 3 (.op 10 3 (.op 11 3 (.op 12 2 (.op 13 3 (.done)))))))))))))))]
def plans150 : List (Nat × PlanT) := [(1, .op 0 3 (.op 1 3 (.op 2 3 (.op 3 3 (.op 4 3 (.op 5 3 (.op 6 3 (.op 7 3 (.op 8 3 (.op 9 3 (.op 10 3 (.op 11 3 (.op 12 2 (.op 13 3 (.done)))))))))))))))]
def plans152 : List (Nat × PlanT) := [(1, .op 0 3 (.op 1 3 (.op 2 3 (.op 3 3 (.op 4 3 (.op 5 3 (.op 6 3 (.op 7 3 (.op 8 3 (.op 9 2 (.op 10 3 (.done))))))))))))]
def plans155 : List (Nat × PlanT) := [(1, .op 0 3 (.op 1 3 (.op 2 3 (.op 3 3 (.op 4 3 (.op 5 3 (.op 6 2 (.op 7 3 (.done)))))))))]
def plans166 : List (Nat × PlanT) := [(6, .op 0 3 (.op 1 3 (.op 2 3 (.op 3 0 (.op 4 3 (.op 5 3 (.op 6 3 (.op 7 3 (.op 8 0 (.op 9 3 (.done))))))))))), (11, .op 0 3 (.op 1 3 (.op 2 3 (.op 3 0 (.op 4 3 (.op 5 3 (.op 6 3 (.op 7 3 (.op 8 0 (.op 9 3 (.done)))))))))))]
def plans170 : List (Nat × PlanT) := [(3, .op 0 3 (.op 1 3 (.op 2 3 (.op 3 3 (.op 4 3 (.op 5 3 (.op 6 3 (.op 7 0 (.op 8 3 (.op 9 3 (.op 10 3 (.op 11 0 (.op 12 3 (.op 13 2 (.op 14 3 (.op 15 2 (.done)))))))))))))))))]
end Go.Proofs.YtahgjidcaeieaaaGreatDoor
namespace Go.Eng
open Go.RowKit
structure Mem (w0 w : World) (L : List (Nat × Obj)) : Prop where
  ext : Ext w0 w
  own : ∀ g o, (g, o) ∈ L → w0.heap.size ≤ g ∧ w.heap[g]? = some o
  nodup : (L.map Prod.fst).Nodup
theorem Alloc.ext {w w' : World} {g : Nat} {o : Obj} (h : Alloc w g o w') : Ext w w' :=
  ⟨h.os, h.tape, h.output, by rw [h.heap]; simp, fun k hk => by rw [h.heap, Array.getElem?_push, if_neg (Nat.ne_of_lt hk)]⟩
theorem Alloc.here {w w' : World} {g : Nat} {o : Obj} (h : Alloc w g o w') : w'.heap[g]? = some o := by rw [h.heap, h.new]; simp
theorem Alloc.size {w w' : World} {g : Nat} {o : Obj} (h : Alloc w g o w') : w'.heap.size = w.heap.size + 1 := by rw [h.heap]; simp
theorem Mem.start (w : World) : Mem w w [] := ⟨Ext.refl w, fun _ _ h => (by cases h), List.nodup_nil⟩
variable {w0 w w' : World} {L : List (Nat × Obj)}
theorem Mem.lt (h : Mem w0 w L) {g : Nat} {o : Obj} (hg : (g, o) ∈ L) : g < w.heap.size := (Array.getElem?_eq_some_iff.1 (h.own g o hg).2).1
theorem Mem.alloc (h : Mem w0 w L) {g : Nat} {o : Obj} (a : Alloc w g o w') : Mem w0 w' ((g, o) :: L) := by
  refine ⟨h.ext.trans a.ext, fun g' o' hm => ?_, ?_⟩
  · rcases List.mem_cons.1 hm with e | hm
    · cases e; exact ⟨by rw [a.new]; exact h.ext.size, a.here⟩
    · exact ⟨(h.own _ _ hm).1, a.ext.heap (h.own _ _ hm).2⟩
  · rw [List.map_cons, List.nodup_cons]
    refine ⟨fun hm => ?_, h.nodup⟩
    obtain ⟨⟨g', o'⟩, hm', e⟩ := List.mem_map.1 hm
    have := h.lt hm'
    have e : g' = g := e
    rw [e, a.new] at this; exact Nat.lt_irrefl _ this
theorem Mem.get (h : Mem w0 w L) (k : Nat) {g : Nat} {o : Obj} (hk : L[k]? = some (g, o)) : w.heap[g]? = some o := (h.own g o (List.mem_of_getElem? hk)).2
theorem Mem.new (h : Mem w0 w L) (k : Nat) {g : Nat} {o : Obj} (hk : L[k]? = some (g, o)) : w0.heap.size ≤ g := (h.own g o (List.mem_of_getElem? hk)).1
theorem Mem.put (h : Mem w0 w L) (k : Nat) {g : Nat} {o o' : Obj} (hk : L[k]? = some (g, o)) (p : Put w g o' w') : Mem w0 w' (L.set k (g, o')) := by
  have hn := h.new k hk
  have hmap : (L.set k (g, o')).map Prod.fst = L.map Prod.fst := by
    rw [List.map_set]
    apply List.ext_getElem?
    intro i
    rw [List.getElem?_set]
    split
    · rename_i hki
      subst hki
      have hlt := (List.getElem?_eq_some_iff.1 hk).1
      simp [hlt]
      have := List.getElem?_eq_some_iff.1 hk
      obtain ⟨_, e⟩ := this
      simp [e]
    · rfl
  refine ⟨⟨p.os.trans h.ext.os, p.tape.trans h.ext.tape, p.output.trans h.ext.output, by rw [p.size]; exact h.ext.size, fun j hj => by rw [p.there j (by omega)]; exact h.ext.block j hj⟩, fun g1 o1 hm => ?_, by rw [hmap]; exact h.nodup⟩
  obtain ⟨i, hi⟩ := List.mem_iff_getElem?.1 hm
  rw [List.getElem?_set] at hi
  by_cases hki : k = i
  · rw [if_pos hki] at hi
    split at hi
    · cases hi; exact ⟨hn, p.here⟩
    · cases hi
  · rw [if_neg hki] at hi
    have hm1 := List.mem_of_getElem? hi
    have hne : g1 ≠ g := by
      intro e
      subst e
      have h1 : (L.map Prod.fst)[i]? = some g1 := by simp [hi]
      have h2 : (L.map Prod.fst)[k]? = some g1 := by simp [hk]
      have hlt : i < (L.map Prod.fst).length := (List.getElem?_eq_some_iff.1 h1).1
      exact hki ((List.getElem?_inj hlt h.nodup).1 (h1.trans h2.symm)).symm
    exact ⟨(h.own _ _ hm1).1, by rw [p.there g1 hne]; exact (h.own _ _ hm1).2⟩
theorem Mem.grow (h : Mem w0 w L) (e : Ext w w') : Mem w0 w' L := ⟨h.ext.trans e, fun g o hm => ⟨(h.own g o hm).1, e.heap (h.own g o hm).2⟩, h.nodup⟩
theorem Mem.sub (h : Mem w0 w L) {L' : List (Nat × Obj)} (hs : L'.Sublist L) : Mem w0 w L' := ⟨h.ext, fun g o hm => h.own g o (hs.subset hm), (hs.map Prod.fst).nodup h.nodup⟩
theorem Mem.tail (h : Mem w0 w L) : Mem w0 w L.tail := h.sub (List.tail_sublist L)
theorem Mem.add (h : Mem w0 w L) {g : Nat} {o : Obj} (ho : w.heap[g]? = some o) (hn : w0.heap.size ≤ g) (hd : ∀ p ∈ L, p.1 ≠ g) : Mem w0 w ((g, o) :: L) := by
  refine ⟨h.ext, fun g' o' hm => ?_, ?_⟩
  · rcases List.mem_cons.1 hm with e | hm
    · cases e; exact ⟨hn, ho⟩
    · exact h.own _ _ hm
  · rw [List.map_cons, List.nodup_cons]
    refine ⟨fun hm => ?_, h.nodup⟩
    obtain ⟨p, hp, e⟩ := List.mem_map.1 hm
    exact hd p hp e
theorem Mem.cell (h : Mem w0 w L) (k : Nat) {g t i : Nat} {c : Array Value} {fr : Nat × Nat} {v : Value} (hk : L[k]? = some (g, .cells c t fr)) (hi : c[i]? = some v) : w.cell? ⟨g, i, none⟩ = some v := by
  have := h.get k hk
  simp [World.cell?, this, hi]
theorem Mem.rd (h : Mem w0 w L) (k : Nat) {g t : Nat} {cs : List Value} {fr : Nat × Nat} (hk : L[k]? = some (g, .cells cs.toArray t fr)) : Rd w g 0 cs := Rd.of_block (h.get k hk)
theorem Mem.grown (h : Mem w0 w L) {row : Option Nat} (hg : w.grownBy w' row) (hr : ∀ k, row = some k → w0.heap.size ≤ k) (hd : ∀ p ∈ L, some p.1 ≠ row) : Mem w0 w' L := by
  refine ⟨⟨hg.os.trans h.ext.os, hg.tape.trans h.ext.tape, hg.output.trans h.ext.output, Nat.le_trans h.ext.size hg.size, fun k hk => ?_⟩, fun g o hm => ⟨(h.own g o hm).1, ?_⟩, h.nodup⟩
  · rw [hg.block k (Nat.lt_of_lt_of_le hk h.ext.size) (fun e => by have := hr k e.symm; omega)]
    exact h.ext.block k hk
  · rw [hg.block g (h.lt hm) (hd _ hm)]
    exact (h.own g o hm).2
theorem ownsRow_ext {base e size n : Nat} {v : Value} {xs : List Value} (h : w.ownsRow base e size v n xs) (he : Ext w w') : w'.ownsRow base e size v n xs := by
  obtain ⟨hl, hv | ⟨g, cap, cur, hv, hb, hg, h1⟩⟩ := h
  · exact ⟨hl, .inl hv⟩
  · exact ⟨hl, .inr ⟨g, cap, cur, hv, hb, he.heap hg, h1⟩⟩
theorem ownsRow_put {base e size n : Nat} {v : Value} {xs : List Value} (h : w.ownsRow base e size v n xs) {g : Nat} {o : Obj} (p : Put w g o w') (hne : v.ownBlock ≠ some g) : w'.ownsRow base e size v n xs := by
  obtain ⟨hl, hv | ⟨g', cap, cur, hv, hb, hg, h1⟩⟩ := h
  · exact ⟨hl, .inl hv⟩
  · refine ⟨hl, .inr ⟨g', cap, cur, hv, hb, ?_, h1⟩⟩
    rw [p.there g' (fun e => hne (by subst hv; simp [Value.ownBlock, e]))]
    exact hg
theorem Put.ext_of {g : Nat} {o : Obj} (p : Put w g o w') (e : Ext w0 w) (hg : w0.heap.size ≤ g) : Ext w0 w' :=
  ⟨p.os.trans e.os, p.tape.trans e.tape, p.output.trans e.output, by rw [p.size]; exact e.size, fun k hk => by rw [p.there k (by omega)]; exact e.block k hk⟩
theorem owns_block {base e size n g : Nat} {cs : List Value} (h : w.heap[g]? = some (.cells cs.toArray e (0, 0))) (hb : base ≤ g) (hl : cs.length = n * size) (hn : n ≤ maxLen) : w.ownsRow base e size (.slice (some ⟨g, 0, none⟩) n n) n cs :=
  ⟨hl, .inr ⟨g, n, cs.toArray, rfl, hb, h, Nat.le_refl _, hn, by simpa using hl, by simp [← hl]⟩⟩
def Reads (w : World) (A : Option Addr) (cs : List Value) : Prop := cs = [] ∨ ∃ b o, A = some ⟨b, o, none⟩ ∧ Rd w b o cs
theorem Reads.ext {A : Option Addr} {cs : List Value} (h : Reads w A cs) (e : Ext w w') : Reads w' A cs := h.imp id fun ⟨b, o, hb, hr⟩ => ⟨b, o, hb, hr.ext e⟩
theorem reads_of_owns {base e size n : Nat} {v : Value} {xs : List Value} (h : w.ownsRow base e size v n xs) : ∃ A cap, v = .slice A n cap ∧ Reads w A xs ∧ n ≤ cap := by
  obtain ⟨hl, ⟨rfl, rfl⟩ | ⟨g, cap, cur, rfl, hb, hg, h1, h2, h3, h4⟩⟩ := h
  · refine ⟨none, 0, rfl, .inl ?_, Nat.le_refl 0⟩
    simpa using hl
  · refine ⟨_, cap, rfl, .inr ⟨g, 0, rfl, fun i u hu => ?_⟩, h1⟩
    rw [← h4, List.getElem?_take] at hu
    split at hu
    · have : cur[i]? = some u := by simpa using hu
      simp [World.cell?, hg, this]
    · cases hu
theorem cell_of_block {g i t : Nat} {c : Array Value} {fr : Nat × Nat} {v : Value} (h : w.heap[g]? = some (.cells c t fr)) (hi : c[i]? = some v) : w.cell? ⟨g, i, none⟩ = some v := by simp [World.cell?, h, hi]
theorem grownBy_trans {a b c : World} {row : Option Nat} (h : a.grownBy b row) (k : b.grownBy c row) : a.grownBy c row :=
  ⟨k.os.trans h.os, k.tape.trans h.tape, k.output.trans h.output, Nat.le_trans h.size k.size, fun j hj hne => (k.block j (Nat.lt_of_lt_of_le hj h.size) hne).trans (h.block j hj hne)⟩
theorem grownBy_refl (a : World) (row : Option Nat) : a.grownBy a row := ⟨rfl, rfl, rfl, Nat.le_refl _, fun _ _ _ => rfl⟩
theorem ext_grownBy {a b : World} (h : Ext a b) (row : Option Nat) : a.grownBy b row := ⟨h.os, h.tape, h.output, h.size, fun k hk _ => h.block k hk⟩
theorem Put.grownBy {a b : World} {g : Nat} {o : Obj} (h : Put a g o b) : a.grownBy b (some g) := ⟨h.os, h.tape, h.output, by rw [h.size]; exact Nat.le_refl _, fun k _ hne => h.there k (fun e => hne (by rw [e]))⟩
theorem lt_of_heap {a : World} {k : Nat} {o : Obj} (hk : a.heap[k]? = some o) : k < a.heap.size := (Array.getElem?_eq_some_iff.1 hk).1
def Only (t0 : Nat) (w w' : World) : Prop := ∀ (q : Nat) (c : Array Value) (t : Nat) (fr : Nat × Nat), w.heap[q]? = some (.cells c t fr) → t ≠ t0 → w'.heap[q]? = some (.cells c t fr)
theorem only_ext (t0 : Nat) (h : Ext w w') : Only t0 w w' := fun _ _ _ _ hq _ => h.heap hq
theorem only_app {t0 base size n : Nat} {v : Value} {xs : List Value} (ho : w.ownsRow base t0 size v n xs) (hg : w.grownBy w' v.ownBlock) : Only t0 w w' := fun q c t fr hq hne => by
  rw [hg.block q (lt_of_heap hq) ?_]
  · exact hq
  · intro e
    obtain ⟨_, hv | ⟨g', cap, cur, hv, _, hg', _⟩⟩ := ho
    · rw [hv.1] at e; cases e
    · rw [hv] at e
      have e : q = g' := by simpa [Value.ownBlock] using e
      subst e
      have := hq.symm.trans hg'
      simp at this
      exact hne this.2.1
theorem ownsRow_only {t0 base e size n : Nat} {v : Value} {xs : List Value} (h : w.ownsRow base e size v n xs) (k : Only t0 w w') (hne : e ≠ t0) : w'.ownsRow base e size v n xs := by
  obtain ⟨hl, hv | ⟨g, cap, cur, hv, hb, hg, h1⟩⟩ := h
  · exact ⟨hl, .inl hv⟩
  · exact ⟨hl, .inr ⟨g, cap, cur, hv, hb, k g cur e _ hg hne, h1⟩⟩
theorem ownsRow_base {base base' e size n : Nat} {v : Value} {xs : List Value} (h : w.ownsRow base' e size v n xs) (hb : base ≤ base') : w.ownsRow base e size v n xs := by
  obtain ⟨hl, hv | ⟨g, cap, cur, hv, hb', h1⟩⟩ := h
  · exact ⟨hl, .inl hv⟩
  · exact ⟨hl, .inr ⟨g, cap, cur, hv, Nat.le_trans hb hb', h1⟩⟩
theorem below_put {B g : Nat} {o : Obj} {w0 : World} (h : Below B w0 w) (p : Put w g o w') (hg : B ≤ g) : Below B w0 w' :=
  ⟨p.os.trans h.os, p.tape.trans h.tape, p.output.trans h.output, by rw [p.size]; exact h.size, fun k hk => by rw [p.there k (by omega)]; exact h.block k hk⟩
theorem below_app {B t0 size n : Nat} {w0 : World} {v : Value} {xs : List Value} (h : Below B w0 w) (ho : w.ownsRow B t0 size v n xs) (hg : w.grownBy w' v.ownBlock) (hB : B ≤ w.heap.size) : Below B w0 w' :=
  h.trans ⟨hg.os, hg.tape, hg.output, hg.size, fun k hk => hg.block k (by omega) (fun e => by have := (ho.lt k e.symm).1; omega)⟩
theorem app_ext {e size n : Nat} {v : Value} {xs : List Value} (h : Ext w0 w) (ho : w.ownsRow w0.heap.size e size v n xs) (hg : w.grownBy w' v.ownBlock) : Ext w0 w' :=
  ((⟨h, fun _ _ hm => (by cases hm), List.nodup_nil⟩ : Mem w0 w []).grown hg (fun k hk => (ho.lt k hk).1) (fun p hp => (by cases hp))).ext
theorem Keep.put {D : Nat → Prop} {a b c : World} {g : Nat} {o : Obj} (h : Keep D a b) (p : Put b g o c) (hg : ¬ D g) : Keep D a c :=
  ⟨p.os.trans h.os, p.tape.trans h.tape, p.output.trans h.output, by rw [p.size]; exact h.size, fun k hD hk => by rw [p.there k (fun e => hg (e ▸ hD))]; exact h.block k hD hk⟩
end Go.Eng
namespace Go.Eng
open Go.RowKit
open Go.Maps (Keyed)
def MapIs (P : Program) (k : Nat) (w : World) (b : Nat) (f : Value → Option Value) : Prop :=
  ∃ es clk, w.heap[b]? = some (.map es clk) ∧ (∀ e ∈ es.toList, ∃ l, keyOf P k e.key = some l) ∧ (es.toList.map MapEntry.key).Nodup ∧ (∀ e ∈ es.toList, f e.key = some e.val) ∧ ∀ x v, f x = some v → ∃ e ∈ es.toList, e.key = x
theorem MapIs.ext {P : Program} {k : Nat} {w w' : World} {b : Nat} {f : Value → Option Value} (h : MapIs P k w b f) (e : Ext w w') : MapIs P k w' b f :=
  let ⟨es, clk, h1, h2⟩ := h
  ⟨es, clk, e.heap h1, h2⟩
theorem MapIs.put {P : Program} {k : Nat} {w w' : World} {b g : Nat} {o : Obj} {f : Value → Option Value} (h : MapIs P k w b f) (p : Put w g o w') (hne : b ≠ g) : MapIs P k w' b f :=
  let ⟨es, clk, h1, h2⟩ := h
  ⟨es, clk, (p.there b hne).trans h1, h2⟩
theorem MapIs.same {P : Program} {k : Nat} {w w' : World} {b : Nat} {f : Value → Option Value} (h : MapIs P k w b f) (e : w'.heap[b]? = w.heap[b]?) : MapIs P k w' b f :=
  let ⟨es, clk, h1, h2⟩ := h
  ⟨es, clk, e.trans h1, h2⟩
theorem MapIs.empty {P : Program} {k : Nat} {w : World} {b : Nat} (h : w.heap[b]? = some (.map #[] 0)) : MapIs P k w b fun _ => none :=
  ⟨#[], 0, h, fun _ h => by simp at h, by simp, fun _ h => by simp at h, fun _ _ h => by cases h⟩
open Classical in
noncomputable def updV (f : Value → Option Value) (x v : Value) : Value → Option Value := fun y => if y = x then some v else f y
section
variable {C : Cfg}
theorem mapGet (hC : C.Ok) {o : Oper} {t : Nat} {m ix : Operand} {ok : Bool} {l : Env} {w : World} {b k e : Nat} {x : Value} {lx : Lit} {ti te : TI} {f : Value → Option Value} (ho : o.op = .lookup t m ix ok)
    (hm : evo l m = some (.map (some b))) (hx : evo l ix = some x) (hti : C.ti t = some ti) (hd : ti.d = .map k e) (hte : C.ti e = some te) (K : Keyed C.P k) (hkey : keyOf C.P k x = some lx) (hM : MapIs C.P k w b f) :
    QuietRun C o l w (if ok then .tuple #[(f x).getD te.zero, .bool (f x).isSome] else (f x).getD te.zero) := by
  intro ρ hρ w' hw
  obtain ⟨es, clk, hb, hgood, hnd, hval, hdom⟩ := hM.ext hw
  have hu := (hC.ti hti).isMap hd
  unfold execOp
  rw [ho]
  have hchk : ∀ em, (Instr.checkKey em 10000 k x).run C.P w' = .ok () w' := fun em => K.check w' em hkey
  rcases K.find w' hkey es.toList hgood with ⟨h1, h2⟩ | ⟨j, e0, h1, h2, h3⟩
  · have hf : f x = none := by
      cases hfx : f x with
      | none => rfl
      | some v => obtain ⟨e, he, hk⟩ := hdom x v hfx; exact absurd hk (h2 e he)
    simp only [hρ _ _ hm, hρ _ _ hx, hf]
    cases ok <;> simp [Instr.lookup, run_underlying hu, MapKept.run_getObj_map hb, hchk, h1, (hC.ti hte).run_zero]
  · have hf : f x = some e0.val := by rw [← h3]; exact hval e0 (List.mem_of_getElem? h2)
    simp only [hρ _ _ hm, hρ _ _ hx, hf]
    cases ok <;> simp [Instr.lookup, run_underlying hu, MapKept.run_getObj_map hb, hchk, h1]
theorem mapGet1 (hC : C.Ok) {o : Oper} {t : Nat} {m ix : Operand} {l : Env} {w : World} {b k e : Nat} {x v : Value} {lx : Lit} {ti te : TI} {f : Value → Option Value} (hkey : keyOf C.P k x = some lx) (hM : MapIs C.P k w b f) (K : Keyed C.P k)
    (ho : o.op = .lookup t m ix false) (hm : evo l m = some (.map (some b))) (hx : evo l ix = some x) (hti : C.ti t = some ti) (hd : ti.d = .map k e) (hte : C.ti e = some te) (hv : (f x).getD te.zero = v) : QuietRun C o l w v := by
  have := mapGet hC ho hm hx hti hd hte K hkey hM
  rw [← hv]
  simpa using this
theorem mapGet2 (hC : C.Ok) {o : Oper} {t : Nat} {m ix : Operand} {l : Env} {w : World} {b k e : Nat} {x v : Value} {lx : Lit} {ti te : TI} {f : Value → Option Value} {ok : Bool} (hkey : keyOf C.P k x = some lx) (hM : MapIs C.P k w b f) (K : Keyed C.P k)
    (ho : o.op = .lookup t m ix true) (hm : evo l m = some (.map (some b))) (hx : evo l ix = some x) (hti : C.ti t = some ti) (hd : ti.d = .map k e) (hte : C.ti e = some te) (hv : (f x).getD te.zero = v) (hk : (f x).isSome = ok) : QuietRun C o l w (.tuple #[v, .bool ok]) := by
  have := mapGet hC ho hm hx hti hd hte K hkey hM
  rw [← hv, ← hk]
  simpa using this
theorem put_setObj {w w₁ : World} (hs : Same w w₁) {b : Nat} {o o' : Obj} (hg : w.heap[b]? = some o) : Put w b o' { w₁ with heap := w₁.heap.setIfInBounds b o' } := by
  have hlt : b < w.heap.size := (Array.getElem?_eq_some_iff.1 hg).1
  refine ⟨by simp [hs.heap], by simp [hs.heap, hlt], fun k hk => ?_, hs.os, hs.tape, hs.output⟩
  rw [Array.getElem?_setIfInBounds, if_neg (fun e => hk e.symm), hs.heap]
theorem mapPut (hC : C.Ok) {o : Oper} {t : Nat} {m ix xv : Operand} {l : Env} {w : World} {b k e : Nat} {x v : Value} {lx : Lit} {ti : TI} {f : Value → Option Value} (ho : o.op = .mapUpdate t m ix xv)
    (hm : evo l m = some (.map (some b))) (hx : evo l ix = some x) (hv : evo l xv = some v) (hti : C.ti t = some ti) (hd : ti.d = .map k e) (K : Keyed C.P k) (hkey : keyOf C.P k x = some lx) (hM : MapIs C.P k w b f)
    {Q : Value → World → Prop} (h : ∀ o' w', Put w b o' w' → MapIs C.P k w' b (updV f x v) → Q undef w') : LoudRun C o l w Q := by
  intro ρ hρ w₁ hs
  obtain ⟨es, clk, hb, hgood, hnd, hval, hdom⟩ := hM
  have hb1 : w₁.heap[b]? = some (.map es clk) := by rw [hs.heap]; exact hb
  have hu := (hC.ti hti).isMap hd
  have hchk : ∀ em, (Instr.checkKey em 10000 k x).run C.P w₁ = .ok () w₁ := fun em => K.check w₁ em hkey
  rcases K.find w₁ hkey es.toList hgood with ⟨h1, h2⟩ | ⟨j, e0, h1, h2, h3⟩
  · refine ⟨undef, _, _, .inr ⟨?_, rfl⟩, h _ _ (put_setObj hs (o' := .map (es.push ⟨x, v, clk⟩) (clk + 1)) hb) ?_, Same.refl _⟩
    · unfold execOp
      rw [ho]
      simp [hρ _ _ hm, hρ _ _ hx, hρ _ _ hv, Instr.mapUpdate, run_underlying hu, MapKept.run_getObj_map hb1, hchk, h1, MapKept.run_setObj_map _ hb1]
    · refine ⟨_, _, (put_setObj hs hb).here, ?_, ?_, ?_, ?_⟩
      · intro e he
        simp only [Array.toList_push, List.mem_append, List.mem_singleton] at he
        rcases he with he | rfl
        · exact hgood e he
        · exact ⟨_, hkey⟩
      · rw [Array.toList_push, List.map_append, List.nodup_append]
        refine ⟨hnd, by simp, ?_⟩
        intro a ha c hc
        obtain ⟨e, he, rfl⟩ := List.mem_map.1 ha
        have hc : c = x := by simpa using hc
        subst hc
        exact h2 e he
      · intro e he
        simp only [Array.toList_push, List.mem_append, List.mem_singleton] at he
        unfold updV
        rcases he with he | rfl
        · rw [if_neg (h2 e he)]; exact hval e he
        · simp
      · intro y u hy
        unfold updV at hy
        simp only [Array.toList_push, List.mem_append, List.mem_singleton]
        by_cases e : y = x
        · subst e; exact ⟨_, .inr rfl, rfl⟩
        · rw [if_neg e] at hy
          obtain ⟨e', he', hk⟩ := hdom y u hy
          exact ⟨e', .inl he', hk⟩
  · have hj : es[j]? = some e0 := by simpa using h2
    have hjl : j < es.toList.length := (List.getElem?_eq_some_iff.1 h2).1
    have hst : (Instr.keyThatStays e0.key x).run C.P w₁ = .ok x w₁ := by rw [h3]; exact K.stays w₁ hkey
    have emod : (es.modify j fun e => { e with key := x, val := v }).toList = es.toList.modify j fun e => { e with key := x, val := v } := by simp
    have hset : es.toList.modify j (fun e => { e with key := x, val := v }) = es.toList.set j { e0 with key := x, val := v } := by
      apply List.ext_getElem?
      intro i
      rw [List.getElem?_modify, List.getElem?_set]
      by_cases hij : j = i
      · subst hij; simp [h2]; simpa using hjl
      · simp [hij]
    refine ⟨undef, _, _, .inr ⟨?_, rfl⟩, h _ _ (put_setObj hs (o' := .map (es.modify j fun e => { e with key := x, val := v }) clk) hb) ?_, Same.refl _⟩
    · unfold execOp
      rw [ho]
      simp [hρ _ _ hm, hρ _ _ hx, hρ _ _ hv, Instr.mapUpdate, run_underlying hu, MapKept.run_getObj_map hb1, hchk, h1, hj, hst, MapKept.run_setObj_map _ hb1]
    · refine ⟨_, _, (put_setObj hs hb).here, ?_, ?_, ?_, ?_⟩
      · rw [emod, hset]
        intro e he
        rcases List.mem_or_eq_of_mem_set he with he | rfl
        · exact hgood e he
        · exact ⟨_, hkey⟩
      · rw [emod, hset, List.map_set]
        have : (es.toList.map MapEntry.key).set j x = es.toList.map MapEntry.key := by
          apply List.ext_getElem?
          intro i
          rw [List.getElem?_set]
          split
          · rename_i hi
            subst hi
            simp [hj, h3]
            simpa using hjl
          · rfl
        rw [this]; exact hnd
      · rw [emod, hset]
        intro e he
        unfold updV
        obtain ⟨i, hi⟩ := List.mem_iff_getElem?.1 he
        rw [List.getElem?_set] at hi
        by_cases hij : j = i
        · subst hij
          simp at hi
          have := hi.2
          subst this
          simp
        · rw [if_neg hij] at hi
          have hne : e.key ≠ x := by
            intro ek
            have h5 : (es.toList.map MapEntry.key)[i]? = some x := by rw [List.getElem?_map, hi]; simp [ek]
            have h6 : (es.toList.map MapEntry.key)[j]? = some x := by rw [List.getElem?_map, h2]; simp [h3]
            have hlt : i < (es.toList.map MapEntry.key).length := (List.getElem?_eq_some_iff.1 h5).1
            exact hij ((List.getElem?_inj hlt hnd).1 (h5.trans h6.symm)).symm
          rw [if_neg hne]
          exact hval e (List.mem_of_getElem? hi)
      · intro y u hy
        rw [emod, hset]
        unfold updV at hy
        by_cases e : y = x
        · subst e; exact ⟨_, List.mem_set hjl _, rfl⟩
        · rw [if_neg e] at hy
          obtain ⟨e', he', hk⟩ := hdom y u hy
          obtain ⟨i, hi⟩ := List.mem_iff_getElem?.1 he'
          refine ⟨e', List.mem_iff_getElem?.2 ⟨i, ?_⟩, hk⟩
          rw [List.getElem?_set, if_neg ?_]
          · exact hi
          · intro hji
            subst hji
            have := h2.symm.trans hi
            cases this
            exact e (hk.symm.trans h3)
theorem ownsRow_cut {w : World} {base e size n k cap g : Nat} {xs : List Value} (h : w.ownsRow base e size (.slice (some ⟨g, 0, none⟩) n cap) n xs) (hk : k ≤ n) : w.ownsRow base e size (.slice (some ⟨g, 0, none⟩) k cap) k (xs.take (k * size)) := by
  obtain ⟨hl, ⟨hv, _⟩ | ⟨g', cap', cur, hv, h1, h2, h3, h4, h5, h6⟩⟩ := h
  · cases hv
  · cases hv
    have hkn : k * size ≤ n * size := Nat.mul_le_mul_right _ hk
    refine ⟨by rw [List.length_take, hl]; omega, .inr ⟨g, cap, cur, rfl, h1, h2, by omega, h4, h5, ?_⟩⟩
    rw [← h6, List.take_take, Nat.min_eq_left hkn]
end
end Go.Eng
namespace Go.Eng
open Go.RowKit
theorem splice_take {cs vs : List Value} {o m : Nat} (h : o + vs.length ≤ m) : (splice cs o vs).take m = splice (cs.take m) o vs := by
  by_cases hl : m ≤ cs.length
  · unfold splice
    rw [List.take_append, List.take_append]
    have h1 : (cs.take o).length = o := by simp; omega
    rw [List.take_of_length_le (by omega : (cs.take o).length ≤ m), List.take_take, Nat.min_eq_left (by omega : o ≤ m)]
    rw [List.length_append, h1, List.take_of_length_le (by omega : vs.length ≤ m - o)]
    rw [List.drop_take]
  · rw [List.take_of_length_le (by omega : cs.length ≤ m)]
    refine List.take_of_length_le ?_
    unfold splice
    simp only [List.length_append, List.length_take, List.length_drop]
    omega
theorem ownsRow_open {w : World} {base e size n cap g : Nat} {xs : List Value} (h : w.ownsRow base e size (.slice (some ⟨g, 0, none⟩) n cap) n xs) :
    ∃ cur : List Value, w.heap[g]? = some (.cells cur.toArray e (0, 0)) ∧ base ≤ g ∧ n * size ≤ cur.length ∧ cur.length = cap * size ∧ n ≤ cap ∧ xs.length = n * size ∧ cur.take (n * size) = xs ∧
      ∀ (o : Nat) (vs : List Value) (w' : World), o + vs.length ≤ n * size → Put w g (.cells (splice cur o vs).toArray e (0, 0)) w' → w'.ownsRow base e size (.slice (some ⟨g, 0, none⟩) n cap) n (splice xs o vs) := by
  obtain ⟨hl, ⟨hv, _⟩ | ⟨g', cap', cur, hv, h1, h2, h3, h4, h5, h6⟩⟩ := h
  · cases hv
  · cases hv
    have h5' : cur.toList.length = cap * size := by simpa using h5
    have hnc : n * size ≤ cap * size := Nat.mul_le_mul_right _ h3
    refine ⟨cur.toList, by simpa using h2, h1, by omega, h5', h3, hl, h6, fun o vs w' ho p => ⟨?_, .inr ⟨g, cap, (splice cur.toList o vs).toArray, rfl, h1, p.here, h3, h4, ?_, ?_⟩⟩⟩
    · rw [splice_length (by omega)]; exact hl
    · rw [List.size_toArray, splice_length (by omega)]; exact h5'
    · rw [List.toList_toArray, splice_take ho, h6]
theorem zeroCells_props (zc : Array Value) (n : Nat) (h1 : zc.toList.all (·.oneCell') = true) (hz : 0 < zc.size) : (Builtin.zeroCells zc n).toList.length = n * zc.size ∧ ∀ v ∈ (Builtin.zeroCells zc n).toList, v.oneCell' = true := by
  unfold Builtin.zeroCells
  refine ⟨by simp, fun v hv => ?_⟩
  simp only [Array.toList_map, List.mem_map] at hv
  obtain ⟨i, _, rfl⟩ := hv
  have hi : i % zc.size < zc.size := Nat.mod_lt _ hz
  rw [getElem!_pos zc _ hi]
  exact List.all_eq_true.1 h1 _ (by simp)
section
variable {C : Cfg}
theorem clearRow (hC : C.Ok) {o : Oper} {t e esz eb m c g off : Nat} {x : Operand} {l : Env} {w : World} {A : Option Addr} {ti te : TI} {cur : List Value} (ho : o.op = .call ⟨.builtin .clear, #[x], #[t]⟩)
    (hx : evo l x = some (.slice A m c)) (hti : C.ti t = some ti) (hd : ti.d = .slice e esz eb) (hte : C.ti e = some te) (h1 : te.zero.cells.toList.all (·.oneCell') = true) (hz : te.zero.cells.size = esz) (hpos : 0 < esz)
    (hA : A = some ⟨g, off, none⟩) (hm : 0 < m) (hg : w.heap[g]? = some (.cells cur.toArray e (0, 0))) (hin : off + m * esz ≤ cur.length)
    {Q : Value → World → Prop} (h : ∀ zs w', zs.length = m * esz → Put w g (.cells (splice cur off zs).toArray e (0, 0)) w' → Q (.tuple #[]) w') : LoudRun C o l w Q := by
  intro ρ hρ w₁ hs
  subst hA
  have hu := ((hC.ti hti).isSlice hd).1
  obtain ⟨hzl, hz1⟩ := zeroCells_props te.zero.cells m h1 (by omega)
  rw [hz] at hzl
  have hg1 : w₁.heap[g]? = some (.cells cur.toArray e (0, 0)) := by rw [hs.heap]; exact hg
  have hst := run_storeCells_at (P := C.P) g off e (Builtin.zeroCells te.zero.cells m).toList 0 cur.toArray w₁ hg1 (by simp only [List.size_toArray]; omega) hz1
  have hrun : (Builtin.clear_ #[t] o.type #[.slice (some ⟨g, off, none⟩) m c]).run C.P w₁ = .ok (.tuple #[]) (w₁.setRow g (splice cur off (Builtin.zeroCells te.zero.cells m).toList).toArray) := by
    obtain ⟨k, rfl⟩ : ∃ k, m = k + 1 := ⟨m - 1, by omega⟩
    unfold Builtin.clear_
    simp [run_underlying hu, (hC.ti hte).run_zero]
    simp at hst
    rw [hst]
    simp [splice]
  refine ⟨.tuple #[], _, _, .inl ?_, h _ _ hzl (put_setRow hs hg), Same.refl _⟩
  unfold execOp
  rw [ho]
  simp only [resolve, invoke, builtin, List.map_toArray, List.map_cons, List.map_nil, hρ _ _ hx, Sem.run_bind, Sem.run_pure, Result.andThen_ok, hrun]
end
end Go.Eng
namespace Go.Eng
variable {α : Type}
theorem flat_get {enc : α → List Value} {k : Nat} (hk : ∀ x, (enc x).length = k) : ∀ (l : List α) (i c : Nat) (hi : i < l.length), c < k → (l.flatMap enc)[i * k + c]? = (enc l[i])[c]?
  | [], i, c, hi, _ => by simp at hi
  | x :: l, 0, c, _, hc => by
    rw [List.flatMap_cons, Nat.zero_mul, Nat.zero_add, List.getElem?_append_left (by rw [hk]; exact hc)]
    rfl
  | x :: l, i + 1, c, hi, hc => by
    rw [List.flatMap_cons, List.getElem?_append_right (by rw [hk, Nat.add_mul]; omega), hk]
    have e : (i + 1) * k + c - k = i * k + c := by rw [Nat.add_mul]; omega
    rw [e, flat_get hk l i c (by simpa using hi) hc]
    rfl
theorem flat_length {enc : α → List Value} {k : Nat} (hk : ∀ x, (enc x).length = k) (l : List α) : (l.flatMap enc).length = l.length * k := by
  induction l with
  | nil => simp
  | cons x l ih => rw [List.flatMap_cons, List.length_append, hk, ih, List.length_cons, Nat.add_mul]; omega
end Go.Eng
namespace Go.Eng
open Go.RowKit
abbrev In64 (n : Int) : Prop := -9223372036854775808 ≤ n ∧ n ≤ 9223372036854775807
theorem fit {n : Int} (h : In64 n) : IntKind.i64.wrap n = n := IntWalk.i64_in n h
theorem wf64 {a : Int} (h : In64 a) : (Lit.int .i64 a).wf = true := by
  simp [Lit.wf, IntKind.min, IntKind.max, IntKind.bits, IntKind.signed]
  omega
theorem wf_in64 {a : Int} (h : (Lit.int .i64 a).wf = true) : In64 a := by
  simp [Lit.wf, IntKind.min, IntKind.max, IntKind.bits, IntKind.signed] at h
  omega
theorem brE_ndec {p : Prop} [Decidable p] {A B : Prop} (t : ¬ p → A) (f : p → B) : brE (!decide p) A B := by
  by_cases h : p
  · rw [decide_eq_true h]; exact f h
  · rw [decide_eq_false h]; exact t h
def ints (xs : List Int) : List Value := xs.map (.int .i64 ·)
theorem ints_append (xs ys : List Int) : ints (xs ++ ys) = ints xs ++ ints ys := by simp [ints]
theorem ints_length (xs : List Int) : (ints xs).length = xs.length := by simp [ints]
theorem Reads.int {w : World} {A : Option Addr} {xs : List Int} (h : Reads w A (ints xs)) {i : Nat} (hi : i < xs.length) : ∃ b o, A = some ⟨b, o, none⟩ ∧ w.cell? ⟨b, o + i, none⟩ = some (.int .i64 xs[i]) := by
  rcases h with h | ⟨b, o, hA, hr⟩
  · have : xs.length = 0 := by have := congrArg List.length h; simpa [ints] using this
    omega
  · exact ⟨b, o, hA, hr i _ (by simp [ints, hi])⟩
theorem Reads.elem {α : Type} {enc : α → List Value} {k : Nat} (hk : ∀ x, (enc x).length = k) (k0 : 0 < k) {w : World} {A : Option Addr} {l : List α} (h : Reads w A (l.flatMap enc)) {i : Nat} (hi : i < l.length) :
    ∃ b o, A = some ⟨b, o, none⟩ ∧ Rd w b (o + i * k) (enc l[i]) := by
  rcases h with h | ⟨b, o, hA, hr⟩
  · have := congrArg List.length h
    rw [flat_length hk] at this
    have : l.length * k = 0 := this
    rcases Nat.mul_eq_zero.1 this with h | h <;> omega
  · refine ⟨b, o, hA, fun j v hv => ?_⟩
    have hj : j < k := by
      have := (List.getElem?_eq_some_iff.1 hv).1
      rwa [hk] at this
    have := hr _ _ ((flat_get hk l i j hi hj).trans hv)
    rwa [← Nat.add_assoc] at this
theorem own_ne {w : World} {base e size n g : Nat} {v : Value} {xs : List Value} {o : Obj} (h : w.ownsRow base e size v n xs) (hg : w.heap[g]? = some o) (ho : ∀ c fr, o ≠ .cells c e fr) : some g ≠ v.ownBlock := by
  intro e
  obtain ⟨_, hv | ⟨g', cap, cur, hv, _, hg', _⟩⟩ := h
  · rw [hv.1] at e; cases e
  · rw [hv] at e
    have e : g = g' := by simpa [Value.ownBlock] using e
    subst e
    rw [hg] at hg'
    exact ho _ _ (Option.some.inj hg')
theorem ownsRow_len {w : World} {base e size n : Nat} {v : Value} {us : List Value} (h : w.ownsRow base e size v n us) : n ≤ 9223372036854775807 := by
  obtain ⟨_, ⟨_, rfl⟩ | ⟨_, cap, _, _, _, _, h1, h2, _⟩⟩ := h
  · omega
  · simp only [maxLen] at h2; omega
theorem reads_block {w : World} {g t : Nat} {cs : List Value} (h : w.heap[g]? = some (.cells cs.toArray t (0, 0))) : Reads w (some ⟨g, 0, none⟩) cs := .inr ⟨g, 0, rfl, Rd.of_block h⟩
theorem eqFields_run {P : Program} {w : World} {d : Nat} {xs ys : Array Value} {f : Field → Bool} : ∀ {fs : List Field}, (∀ x ∈ fs, x.name ≠ "_" ∧ ∃ u v, (part x.type xs x.offset).run P w = .ok u w ∧ (part x.type ys x.offset).run P w = .ok v w ∧ (Op.equalIn d x.type u v).run P w = .ok (f x) w) →
    (Op.eqFields d xs ys fs).run P w = .ok (fs.all f) w
  | [], _ => by simp [Op.eqFields]
  | x :: r, h => by
    obtain ⟨hn, u, v, h1, h2, h3⟩ := h x (by simp)
    rw [Op.eqFields, if_pos hn]
    simp only [Sem.run_bind, h1, h2, h3, Result.andThen_ok, List.all_cons]
    cases hf : f x with
    | false => simp
    | true => simpa using eqFields_run fun y hy => h y (by simp [hy])
theorem eqInt_run {P : Program} {t : Nat} {k : IntKind} (hu : P.underlying t = some (.int k)) (w : World) (d : Nat) (k' : IntKind) (a b : Int) : (Op.equalIn (d + 1) t (.int k' a) (.int k' b)).run P w = .ok (decide (a = b)) w := by
  simp only [Op.equalIn, Sem.run_bind, run_underlying hu, Result.andThen_ok, if_true, Sem.run_pure]
  congr 1
theorem ba_beq (a b : ByteArray) : (a.toList == b.toList) = decide (a = b) := by
  rw [Bool.eq_iff_iff]
  simp [ByteArray.toList_eq]
  exact ⟨fun h => ByteArray.ext h, fun h => by rw [h]⟩
theorem eqStr_run {P : Program} {t : Nat} (hu : P.underlying t = some .string) (w : World) (d : Nat) (a b : ByteArray) : (Op.equalIn (d + 1) t (.string a) (.string b)).run P w = .ok (decide (a = b)) w := by
  rw [run_equalIn_string w d t a b hu]
  rw [ba_beq]
end Go.Eng
namespace Go.Proofs.YtahgjidcaeieaaaGreatDoor
open Go.Eng Go.RowKit
open Go.Maps (Keyed)
theorem laidOut : laidOutB Tryz.prog = true := by kernel_rfl
theorem under3 : Tryz.prog.underlying 3 = some (.int .i64) := by kernel_rfl
theorem under4 : Tryz.prog.underlying 4 = some .bool := by kernel_rfl
theorem under5 : Tryz.prog.underlying 5 = some (.int .u8) := by kernel_rfl
theorem under9 : Tryz.prog.underlying 9 = some .string := by kernel_rfl
theorem intK : Keyed C.P 3 := Go.Maps.int_keyed under3
theorem intKey {x : Int} (h : In64 x) : keyOf C.P 3 (.int .i64 x) = some (.int .i64 x) := Go.Maps.keyOf_int_mk under3 (wf64 h)
def NewInts (B : Nat) (w : World) (v : Value) (xs : List Int) : Prop := w.ownsRow B 3 1 v xs.length (ints xs)
theorem NewInts.slice {B : Nat} {w : World} {v : Value} {xs : List Int} (h : NewInts B w v xs) : ∃ A c, v = .slice A xs.length c ∧ Reads w A (ints xs) ∧ xs.length ≤ c := reads_of_owns h
theorem NewInts.ext {B : Nat} {w w' : World} {v : Value} {xs : List Int} (h : NewInts B w v xs) (e : Ext w w') : NewInts B w' v xs := ownsRow_ext h e
theorem newInts_nil (B : Nat) (w : World) : NewInts B w (.slice none 0 0) [] := World.ownsRow_nil _ _ _ _
theorem eqStr (x y : Operand) (a b : ByteArray) : EqIs C.P .eql 9 x y (.string a) (.string b) (decide (a = b)) := by
  intro w
  have h1 : (eqGuard .eql 9 x y (.string a) (.string b)).run C.P w = .ok () w := by simp [eqGuard]
  rw [Sem.run_bind, h1]
  simp only [Result.andThen_ok]
  show (Op.stringOp .eql a b).run C.P w = _
  simp [Op.stringOp, ba_beq]
theorem neqStr (x y : Operand) (a b : ByteArray) : EqIs C.P .neq 9 x y (.string a) (.string b) (!decide (a = b)) := by
  intro w
  have h1 : (eqGuard .neq 9 x y (.string a) (.string b)).run C.P w = .ok () w := by simp [eqGuard]
  rw [Sem.run_bind, h1]
  simp only [Result.andThen_ok]
  show (Op.stringOp .neq a b).run C.P w = _
  simp [Op.stringOp, ba_beq]
end Go.Proofs.YtahgjidcaeieaaaGreatDoor
namespace Go.Proofs.YtahgjidcaeieaaaGreatDoor
open Go.Eng Go.RowKit
structure Fact where
  id : Int
  known : Int
  kind : Int
  who : Int
  what : Int
  other : Int
  since : Int
  til : Int
  name : ByteArray
deriving DecidableEq
def factZ : Fact := ⟨0, 0, 0, 0, 0, 0, 0, 0, ⟨#[]⟩⟩
instance : Inhabited Fact := ⟨factZ⟩
def Fact.cells (x : Fact) : List Value := [.int .i64 x.id, .int .i64 x.known, .int .u8 x.kind, .int .i64 x.who, .int .i64 x.what, .int .i64 x.other, .int .i64 x.since, .int .i64 x.til, .string x.name]
def Fact.val (x : Fact) : Value := .agg x.cells.toArray
def fcells (l : List Fact) : List Value := l.flatMap Fact.cells
theorem fcells_append (a b : List Fact) : fcells (a ++ b) = fcells a ++ fcells b := by simp [fcells]
theorem fcells_one (x : Fact) : fcells [x] = x.cells := by simp [fcells]
def knownL (k : Int) (l : List Fact) : List Fact := l.takeWhile fun x => decide (x.known ≤ k)
def voidedBy (acc : List Fact) (n : Int) : Bool := acc.any fun y => decide (y.kind = 11 ∧ y.what = n)
def backL : List Fact → List Fact → List Fact
  | acc, [] => acc
  | acc, x :: r => if voidedBy acc x.id = true then backL acc r else backL (acc ++ [x]) r
def countL (k : Int) (l : List Fact) : List Fact := (backL [] (knownL k l).reverse).reverse
def holdsB (day : Int) (x : Fact) : Bool := decide (x.since ≤ day ∧ (x.til = 0 ∨ day < x.til))
def atL (k day : Int) (l : List Fact) : List Fact := (countL k l).filter fun x => !decide (x.kind = 11) && holdsB day x
def insD (n : Int) : List Int → List Int
  | [] => [n]
  | x :: r => if n < x then n :: x :: r else if n = x then x :: r else x :: insD n r
def sortD (l : List Int) : List Int := l.foldl (fun acc x => insD x acc) []
theorem mem_insD {n x : Int} : ∀ {l : List Int}, x ∈ insD n l ↔ x = n ∨ x ∈ l
  | [] => by simp [insD]
  | y :: r => by
    unfold insD
    split
    · simp
    · split
      · rename_i h; subst h; simp
      · rw [List.mem_cons, mem_insD (l := r), List.mem_cons]
        constructor
        · rintro (h | h | h)
          · exact .inr (.inl h)
          · exact .inl h
          · exact .inr (.inr h)
        · rintro (h | h | h)
          · exact .inr (.inl h)
          · exact .inl h
          · exact .inr (.inr h)
theorem insD_asc {n : Int} : ∀ {l : List Int}, l.Pairwise (· < ·) → (insD n l).Pairwise (· < ·)
  | [], _ => by simp [insD]
  | y :: r, h => by
    obtain ⟨h1, h2⟩ := List.pairwise_cons.1 h
    unfold insD
    split
    · rename_i hn
      refine List.pairwise_cons.2 ⟨fun a ha => ?_, h⟩
      rcases List.mem_cons.1 ha with rfl | ha
      · exact hn
      · exact Int.lt_trans hn (h1 a ha)
    · split
      · exact h
      · rename_i h3 h4
        refine List.pairwise_cons.2 ⟨fun a ha => ?_, insD_asc h2⟩
        rcases mem_insD.1 ha with rfl | ha
        · omega
        · exact h1 a ha
theorem foldD {l : List Int} : ∀ {acc : List Int}, acc.Pairwise (· < ·) → (l.foldl (fun acc x => insD x acc) acc).Pairwise (· < ·) ∧ ∀ x, x ∈ l.foldl (fun acc x => insD x acc) acc ↔ x ∈ l ∨ x ∈ acc := by
  induction l with
  | nil => intro acc h; exact ⟨h, fun x => by simp⟩
  | cons y r ih =>
    intro acc h
    obtain ⟨h1, h2⟩ := ih (insD_asc (n := y) h)
    refine ⟨h1, fun x => ?_⟩
    rw [List.foldl_cons, h2, mem_insD, List.mem_cons]
    constructor
    · rintro (h | h | h)
      · exact .inl (.inr h)
      · exact .inl (.inl h)
      · exact .inr h
    · rintro ((h | h) | h)
      · exact .inr (.inl h)
      · exact .inl h
      · exact .inr (.inr h)
theorem sortD_asc (l : List Int) : (sortD l).Pairwise (· < ·) := (foldD List.Pairwise.nil).1
theorem mem_sortD {l : List Int} {x : Int} : x ∈ sortD l ↔ x ∈ l := by
  unfold sortD
  rw [(foldD List.Pairwise.nil).2 x]
  simp
theorem asc_eq {a b : List Int} (ha : a.Pairwise (· < ·)) (hb : b.Pairwise (· < ·)) (h : ∀ x, x ∈ a ↔ x ∈ b) : a = b := by
  have na : a.Nodup := ha.imp fun h e => by subst e; exact Int.lt_irrefl _ h
  have nb : b.Nodup := hb.imp fun h e => by subst e; exact Int.lt_irrefl _ h
  exact List.Perm.eq_of_pairwise (fun a b _ _ h1 h2 => absurd (Int.lt_trans h1 h2) (Int.lt_irrefl _)) ha hb ((List.perm_ext_iff_of_nodup na nb).2 h)
theorem sortD_eq {a l : List Int} (ha : a.Pairwise (· < ·)) (h : ∀ x, x ∈ a ↔ x ∈ l) : a = sortD l := asc_eq ha (sortD_asc l) fun x => (h x).trans mem_sortD.symm
theorem asc_length {a : List Int} {l : List Int} (ha : a.Pairwise (· < ·)) (h : ∀ x ∈ a, x ∈ l) : a.length ≤ l.length := by
  induction a generalizing l with
  | nil => simp
  | cons x r ih =>
    obtain ⟨h1, h2⟩ := List.pairwise_cons.1 ha
    have hx : x ∈ l := h x (by simp)
    have := ih (l := l.erase x) h2 fun y hy => by
      have hne : y ≠ x := fun e => by subst e; exact Int.lt_irrefl _ (h1 y hy)
      exact (List.mem_erase_of_ne hne).2 (h y (by simp [hy]))
    rw [List.length_erase_of_mem hx] at this
    have hp : 0 < l.length := List.length_pos_of_mem hx
    simp; omega
theorem sortD_length (l : List Int) : (sortD l).length ≤ l.length := asc_length (sortD_asc l) fun _ h => mem_sortD.1 h
end Go.Proofs.YtahgjidcaeieaaaGreatDoor
namespace Go.Proofs.YtahgjidcaeieaaaGreatDoor
open Go.Eng Go.RowKit
abbrev idB (n : Int) : Bool := decide (1 ≤ n ∧ n ≤ 1000000)
abbrev dayB (n : Int) : Bool := decide (0 ≤ n ∧ n ≤ 100000)
def chB (c : UInt8) : Bool := decide (97 ≤ c.toNat ∧ c.toNat ≤ 122) || decide (48 ≤ c.toNat ∧ c.toNat ≤ 57) || decide (c.toNat = 32) || decide (c.toNat = 45)
def nameB (s : List UInt8) : Bool := decide (1 ≤ s.length ∧ s.length ≤ 24) && !decide (s.head? = some 32) && !decide (s.getLast? = some 32) && s.all chB
def offs (k : Int) : List Nat :=
  if k = 1 ∨ k = 6 ∨ k = 9 then [3, 5, 6, 7] else if k = 5 then [3, 4, 6, 7] else if k = 7 then [3, 6, 7] else if k = 10 then [3, 6] else if k = 11 then [4] else [3, 4, 5, 6, 7]
def rightB (x : Fact) : Bool :=
  if x.kind = 1 then idB x.who && decide (1 ≤ x.other ∧ x.other ≤ 3)
  else if x.kind = 2 ∨ x.kind = 3 then idB x.who && idB x.what && decide (1 ≤ x.other ∧ x.other ≤ 4)
  else if x.kind = 4 then idB x.who && idB x.what && idB x.other
  else if x.kind = 5 then idB x.who && idB x.what
  else if x.kind = 6 ∨ x.kind = 9 then idB x.who && idB x.other && !decide (x.who = x.other)
  else if x.kind = 7 then idB x.who
  else if x.kind = 8 then idB x.who && idB x.what && decide (1 ≤ x.other ∧ x.other ≤ 2)
  else if x.kind = 10 then idB x.who
  else if x.kind = 11 then idB x.what && !decide (x.what = x.id)
  else false
def restB (x : Fact) : Bool :=
  (decide (3 ∈ offs x.kind) || decide (x.who = 0)) && (decide (4 ∈ offs x.kind) || decide (x.what = 0)) && (decide (5 ∈ offs x.kind) || decide (x.other = 0)) &&
  (decide (6 ∈ offs x.kind) || decide (x.since = 0)) && (decide (7 ∈ offs x.kind) || decide (x.til = 0)) && (decide (x.kind = 1) || decide (x.name = ⟨#[]⟩))
def headB (x : Fact) : Bool := decide (1 ≤ x.kind ∧ x.kind ≤ 11) && idB x.id && dayB x.known && dayB x.since && (decide (x.til = 0) || decide (x.since < x.til ∧ x.til ≤ 100000))
def formE (x : Fact) : Int := if (headB x && restB x && rightB x) = true then (if x.kind = 1 ∧ nameB x.name.data.toList = false then 4 else 0) else 1
def idIn (l : List Fact) (n : Int) : Bool := l.any fun y => decide (y.id = n)
def namedIn (l : List Fact) (s : Int) : Bool := l.any fun y => decide (y.kind = 1 ∧ y.who = s)
def whos (l : List Fact) : List Int := (l.filter fun y => decide (y.kind = 1)).map Fact.who
def statesN (l : List Fact) : Nat := (sortD (whos l)).length
def speaks (x : Fact) : List Int := if x.kind = 2 ∨ x.kind = 3 ∨ x.kind = 5 ∨ x.kind = 8 then [x.what] else if x.kind = 4 then [x.who, x.what] else if x.kind = 7 then [x.who] else []
def behindE (l : List Fact) (x : Fact) : Int :=
  if formE x ≠ 0 then formE x
  else if 300 ≤ l.length then 2
  else if l.getLast?.any (fun y => decide (x.known < y.known)) = true then 7
  else if idIn l x.id = true then 6
  else if (speaks x).all (namedIn l) = false then 5
  else if x.kind = 11 ∧ idIn l x.what = false then 5
  else if x.kind = 1 ∧ namedIn l x.who = false ∧ 200 ≤ statesN l then 2
  else 0
def chkG (seen : List Fact) : List Fact → Nat × Int
  | [] => (0, 0)
  | x :: r => if behindE seen x ≠ 0 then (seen.length, behindE seen x) else chkG (seen ++ [x]) r
def chkF (l : List Fact) : Nat × Int := chkG [] l
theorem chkG_at {l : List Fact} {i : Nat} (hi : i < l.length) : chkG (l.take i) (l.drop i) = if behindE (l.take i) l[i] ≠ 0 then (i, behindE (l.take i) l[i]) else chkG (l.take (i + 1)) (l.drop (i + 1)) := by
  rw [List.drop_eq_getElem_cons hi, chkG, List.take_succ_eq_append_getElem hi, List.length_take, Nat.min_eq_left (Nat.le_of_lt hi)]
end Go.Proofs.YtahgjidcaeieaaaGreatDoor
