/- a part of the proof: steps, walks and plain laws that the law below stands on; no condition. -/
import Derived.Test.YtdpdjcopkehdjaaGreatRXa
import Derived.Test.YtdpdjcopkehdjaaGreatRXb
import Derived.Test.YtdpdjcopkehdjaaGreatProg
import Derived.KernelRfl
import Derived.Scope
import Derived.Laws.StructEq
import Derived.Maps.Keyed
import Derived.MapKept
import Derived.DeepKeys4
import Derived.Lib.AppendZerosOnto
set_option linter.unusedVariables false
set_option linter.unusedSimpArgs false
set_option linter.unnecessarySimpa false
set_option linter.unusedSectionVars false
namespace Go.Proofs.YtdpdjcopkehdjaaGreat
open Go.Eng
def ty1:TI:=⟨.func,1,(.nilFunc)⟩
theorem ty1_ok:TIok Tryz.prog 1 ty1:=⟨by kernel_rfl,by kernel_rfl,by kernel_rfl⟩
def ty2:TI:=⟨.int .i64,1,(.int .i64 0)⟩
theorem ty2_ok:TIok Tryz.prog 2 ty2:=⟨by kernel_rfl,by kernel_rfl,by kernel_rfl⟩
def ty3:TI:=⟨.int .i64,1,(.int .i64 0)⟩
theorem ty3_ok:TIok Tryz.prog 3 ty3:=⟨by kernel_rfl,by kernel_rfl,by kernel_rfl⟩
def ty4:TI:=⟨.bool,1,(.bool false)⟩
theorem ty4_ok:TIok Tryz.prog 4 ty4:=⟨by kernel_rfl,by kernel_rfl,by kernel_rfl⟩
def ty5:TI:=⟨.int .u8,1,(.int .u8 0)⟩
theorem ty5_ok:TIok Tryz.prog 5 ty5:=⟨by kernel_rfl,by kernel_rfl,by kernel_rfl⟩
def ty6:TI:=⟨.int .u8,1,(.int .u8 0)⟩
theorem ty6_ok:TIok Tryz.prog 6 ty6:=⟨by kernel_rfl,by kernel_rfl,by kernel_rfl⟩
def ty7:TI:=⟨.struct [(2,0,1),(3,1,1),(4,2,1),(6,3,1)],4,(.agg #[.int .i64 0,.int .i64 0,.bool false,.int .u8 0])⟩
theorem ty7_ok:TIok Tryz.prog 7 ty7:=⟨by kernel_rfl,by kernel_rfl,by kernel_rfl⟩
def ty8:TI:=⟨.struct [(2,0,1),(3,1,1),(4,2,1),(6,3,1)],4,(.agg #[.int .i64 0,.int .i64 0,.bool false,.int .u8 0])⟩
theorem ty8_ok:TIok Tryz.prog 8 ty8:=⟨by kernel_rfl,by kernel_rfl,by kernel_rfl⟩
def ty9:TI:=⟨.str,1,(.string ⟨#[]⟩)⟩
theorem ty9_ok:TIok Tryz.prog 9 ty9:=⟨by kernel_rfl,by kernel_rfl,by kernel_rfl⟩
def ty10:TI:=⟨.str,1,(.string ⟨#[]⟩)⟩
theorem ty10_ok:TIok Tryz.prog 10 ty10:=⟨by kernel_rfl,by kernel_rfl,by kernel_rfl⟩
def ty11:TI:=⟨.str,1,(.string ⟨#[]⟩)⟩
theorem ty11_ok:TIok Tryz.prog 11 ty11:=⟨by kernel_rfl,by kernel_rfl,by kernel_rfl⟩
def ty12:TI:=⟨.int .u64,1,(.int .u64 0)⟩
theorem ty12_ok:TIok Tryz.prog 12 ty12:=⟨by kernel_rfl,by kernel_rfl,by kernel_rfl⟩
def ty13:TI:=⟨.struct [(9,0,1),(12,1,1)],2,(.agg #[.string ⟨#[]⟩,.int .u64 0])⟩
theorem ty13_ok:TIok Tryz.prog 13 ty13:=⟨by kernel_rfl,by kernel_rfl,by kernel_rfl⟩
def ty14:TI:=⟨.struct [(9,0,1),(12,1,1)],2,(.agg #[.string ⟨#[]⟩,.int .u64 0])⟩
theorem ty14_ok:TIok Tryz.prog 14 ty14:=⟨by kernel_rfl,by kernel_rfl,by kernel_rfl⟩
def ty15:TI:=⟨.ptr 297,1,(.pointer none)⟩
theorem ty15_ok:TIok Tryz.prog 15 ty15:=⟨by kernel_rfl,by kernel_rfl,by kernel_rfl⟩
def ty16:TI:=⟨.ptr 300,1,(.pointer none)⟩
theorem ty16_ok:TIok Tryz.prog 16 ty16:=⟨by kernel_rfl,by kernel_rfl,by kernel_rfl⟩
def ty17:TI:=⟨.ptr 308,1,(.pointer none)⟩
theorem ty17_ok:TIok Tryz.prog 17 ty17:=⟨by kernel_rfl,by kernel_rfl,by kernel_rfl⟩
def ty18:TI:=⟨.struct [(17,0,1)],1,(.agg #[.pointer none])⟩
theorem ty18_ok:TIok Tryz.prog 18 ty18:=⟨by kernel_rfl,by kernel_rfl,by kernel_rfl⟩
def ty19:TI:=⟨.struct [(17,0,1)],1,(.agg #[.pointer none])⟩
theorem ty19_ok:TIok Tryz.prog 19 ty19:=⟨by kernel_rfl,by kernel_rfl,by kernel_rfl⟩
def ty20:TI:=⟨.iface true,1,(.nilIface)⟩
theorem ty20_ok:TIok Tryz.prog 20 ty20:=⟨by kernel_rfl,by kernel_rfl,by kernel_rfl⟩
def ty21:TI:=⟨.int .i32,1,(.int .i32 0)⟩
theorem ty21_ok:TIok Tryz.prog 21 ty21:=⟨by kernel_rfl,by kernel_rfl,by kernel_rfl⟩
def ty22:TI:=⟨.slice 55 9 80,1,(.slice none 0 0)⟩
theorem ty22_ok:TIok Tryz.prog 22 ty22:=⟨by kernel_rfl,by kernel_rfl,by kernel_rfl⟩
def ty23:TI:=⟨.struct [(3,0,1),(3,1,1),(3,2,1),(3,3,1),(3,4,1)],5,(.agg #[.int .i64 0,.int .i64 0,.int .i64 0,.int .i64 0,.int .i64 0])⟩
theorem ty23_ok:TIok Tryz.prog 23 ty23:=⟨by kernel_rfl,by kernel_rfl,by kernel_rfl⟩
def ty24:TI:=⟨.struct [(3,0,1),(3,1,1),(3,2,1),(3,3,1),(3,4,1)],5,(.agg #[.int .i64 0,.int .i64 0,.int .i64 0,.int .i64 0,.int .i64 0])⟩
theorem ty24_ok:TIok Tryz.prog 24 ty24:=⟨by kernel_rfl,by kernel_rfl,by kernel_rfl⟩
def ty25:TI:=⟨.slice 44 2 16,1,(.slice none 0 0)⟩
theorem ty25_ok:TIok Tryz.prog 25 ty25:=⟨by kernel_rfl,by kernel_rfl,by kernel_rfl⟩
def ty26:TI:=⟨.func,1,(.nilFunc)⟩
theorem ty26_ok:TIok Tryz.prog 26 ty26:=⟨by kernel_rfl,by kernel_rfl,by kernel_rfl⟩
def ty27:TI:=⟨.slice 72 8 72,1,(.slice none 0 0)⟩
theorem ty27_ok:TIok Tryz.prog 27 ty27:=⟨by kernel_rfl,by kernel_rfl,by kernel_rfl⟩
def ty28:TI:=⟨.struct [(27,0,1)],1,(.agg #[.slice none 0 0])⟩
theorem ty28_ok:TIok Tryz.prog 28 ty28:=⟨by kernel_rfl,by kernel_rfl,by kernel_rfl⟩
def ty29:TI:=⟨.struct [(27,0,1)],1,(.agg #[.slice none 0 0])⟩
theorem ty29_ok:TIok Tryz.prog 29 ty29:=⟨by kernel_rfl,by kernel_rfl,by kernel_rfl⟩
def ty30:TI:=⟨.func,1,(.nilFunc)⟩
theorem ty30_ok:TIok Tryz.prog 30 ty30:=⟨by kernel_rfl,by kernel_rfl,by kernel_rfl⟩
def ty31:TI:=⟨.slice 38 7 40,1,(.slice none 0 0)⟩
theorem ty31_ok:TIok Tryz.prog 31 ty31:=⟨by kernel_rfl,by kernel_rfl,by kernel_rfl⟩
def ty32:TI:=⟨.int .i64,1,(.int .i64 0)⟩
theorem ty32_ok:TIok Tryz.prog 32 ty32:=⟨by kernel_rfl,by kernel_rfl,by kernel_rfl⟩
def ty34:TI:=⟨.func,1,(.nilFunc)⟩
theorem ty34_ok:TIok Tryz.prog 34 ty34:=⟨by kernel_rfl,by kernel_rfl,by kernel_rfl⟩
def ty35:TI:=⟨.slice 3 1 8,1,(.slice none 0 0)⟩
theorem ty35_ok:TIok Tryz.prog 35 ty35:=⟨by kernel_rfl,by kernel_rfl,by kernel_rfl⟩
def ty36:TI:=⟨.func,1,(.nilFunc)⟩
theorem ty36_ok:TIok Tryz.prog 36 ty36:=⟨by kernel_rfl,by kernel_rfl,by kernel_rfl⟩
def ty37:TI:=⟨.struct [(3,0,1),(3,1,1),(4,2,1),(4,3,1),(4,4,1),(3,5,1),(3,6,1)],7,(.agg #[.int .i64 0,.int .i64 0,.bool false,.bool false,.bool false,.int .i64 0,.int .i64 0])⟩
theorem ty37_ok:TIok Tryz.prog 37 ty37:=⟨by kernel_rfl,by kernel_rfl,by kernel_rfl⟩
def ty38:TI:=⟨.struct [(3,0,1),(3,1,1),(4,2,1),(4,3,1),(4,4,1),(3,5,1),(3,6,1)],7,(.agg #[.int .i64 0,.int .i64 0,.bool false,.bool false,.bool false,.int .i64 0,.int .i64 0])⟩
theorem ty38_ok:TIok Tryz.prog 38 ty38:=⟨by kernel_rfl,by kernel_rfl,by kernel_rfl⟩
def ty39:TI:=⟨.func,1,(.nilFunc)⟩
theorem ty39_ok:TIok Tryz.prog 39 ty39:=⟨by kernel_rfl,by kernel_rfl,by kernel_rfl⟩
def ty40:TI:=⟨.func,1,(.nilFunc)⟩
theorem ty40_ok:TIok Tryz.prog 40 ty40:=⟨by kernel_rfl,by kernel_rfl,by kernel_rfl⟩
def ty42:TI:=⟨.func,1,(.nilFunc)⟩
theorem ty42_ok:TIok Tryz.prog 42 ty42:=⟨by kernel_rfl,by kernel_rfl,by kernel_rfl⟩
def ty43:TI:=⟨.struct [(3,0,1),(3,1,1)],2,(.agg #[.int .i64 0,.int .i64 0])⟩
theorem ty43_ok:TIok Tryz.prog 43 ty43:=⟨by kernel_rfl,by kernel_rfl,by kernel_rfl⟩
def ty44:TI:=⟨.struct [(3,0,1),(3,1,1)],2,(.agg #[.int .i64 0,.int .i64 0])⟩
theorem ty44_ok:TIok Tryz.prog 44 ty44:=⟨by kernel_rfl,by kernel_rfl,by kernel_rfl⟩
def ty45:TI:=⟨.func,1,(.nilFunc)⟩
theorem ty45_ok:TIok Tryz.prog 45 ty45:=⟨by kernel_rfl,by kernel_rfl,by kernel_rfl⟩
def ty46:TI:=⟨.slice 90 2 16,1,(.slice none 0 0)⟩
theorem ty46_ok:TIok Tryz.prog 46 ty46:=⟨by kernel_rfl,by kernel_rfl,by kernel_rfl⟩
def ty47:TI:=⟨.slice 60 4 32,1,(.slice none 0 0)⟩
theorem ty47_ok:TIok Tryz.prog 47 ty47:=⟨by kernel_rfl,by kernel_rfl,by kernel_rfl⟩
def ty48:TI:=⟨.struct [(3,0,1),(47,1,1)],2,(.agg #[.int .i64 0,.slice none 0 0])⟩
theorem ty48_ok:TIok Tryz.prog 48 ty48:=⟨by kernel_rfl,by kernel_rfl,by kernel_rfl⟩
def ty49:TI:=⟨.struct [(3,0,1),(47,1,1)],2,(.agg #[.int .i64 0,.slice none 0 0])⟩
theorem ty49_ok:TIok Tryz.prog 49 ty49:=⟨by kernel_rfl,by kernel_rfl,by kernel_rfl⟩
def ty51:TI:=⟨.func,1,(.nilFunc)⟩
theorem ty51_ok:TIok Tryz.prog 51 ty51:=⟨by kernel_rfl,by kernel_rfl,by kernel_rfl⟩
def ty52:TI:=⟨.func,1,(.nilFunc)⟩
theorem ty52_ok:TIok Tryz.prog 52 ty52:=⟨by kernel_rfl,by kernel_rfl,by kernel_rfl⟩
def ty53:TI:=⟨.func,1,(.nilFunc)⟩
theorem ty53_ok:TIok Tryz.prog 53 ty53:=⟨by kernel_rfl,by kernel_rfl,by kernel_rfl⟩
def ty54:TI:=⟨.struct [(3,0,1),(3,1,1),(5,2,1),(3,3,1),(3,4,1),(3,5,1),(3,6,1),(3,7,1),(9,8,1)],9,(.agg #[.int .i64 0,.int .i64 0,.int .u8 0,.int .i64 0,.int .i64 0,.int .i64 0,.int .i64 0,.int .i64 0,.string ⟨#[]⟩])⟩
theorem ty54_ok:TIok Tryz.prog 54 ty54:=⟨by kernel_rfl,by kernel_rfl,by kernel_rfl⟩
def ty55:TI:=⟨.struct [(3,0,1),(3,1,1),(5,2,1),(3,3,1),(3,4,1),(3,5,1),(3,6,1),(3,7,1),(9,8,1)],9,(.agg #[.int .i64 0,.int .i64 0,.int .u8 0,.int .i64 0,.int .i64 0,.int .i64 0,.int .i64 0,.int .i64 0,.string ⟨#[]⟩])⟩
theorem ty55_ok:TIok Tryz.prog 55 ty55:=⟨by kernel_rfl,by kernel_rfl,by kernel_rfl⟩
def ty57:TI:=⟨.func,1,(.nilFunc)⟩
theorem ty57_ok:TIok Tryz.prog 57 ty57:=⟨by kernel_rfl,by kernel_rfl,by kernel_rfl⟩
def ty58:TI:=⟨.func,1,(.nilFunc)⟩
theorem ty58_ok:TIok Tryz.prog 58 ty58:=⟨by kernel_rfl,by kernel_rfl,by kernel_rfl⟩
def ty59:TI:=⟨.struct [(3,0,1),(3,1,1),(3,2,1),(3,3,1)],4,(.agg #[.int .i64 0,.int .i64 0,.int .i64 0,.int .i64 0])⟩
theorem ty59_ok:TIok Tryz.prog 59 ty59:=⟨by kernel_rfl,by kernel_rfl,by kernel_rfl⟩
def ty60:TI:=⟨.struct [(3,0,1),(3,1,1),(3,2,1),(3,3,1)],4,(.agg #[.int .i64 0,.int .i64 0,.int .i64 0,.int .i64 0])⟩
theorem ty60_ok:TIok Tryz.prog 60 ty60:=⟨by kernel_rfl,by kernel_rfl,by kernel_rfl⟩
def ty62:TI:=⟨.func,1,(.nilFunc)⟩
theorem ty62_ok:TIok Tryz.prog 62 ty62:=⟨by kernel_rfl,by kernel_rfl,by kernel_rfl⟩
def ty63:TI:=⟨.struct [(5,0,1),(3,1,1),(3,2,1)],3,(.agg #[.int .u8 0,.int .i64 0,.int .i64 0])⟩
theorem ty63_ok:TIok Tryz.prog 63 ty63:=⟨by kernel_rfl,by kernel_rfl,by kernel_rfl⟩
def ty64:TI:=⟨.struct [(5,0,1),(3,1,1),(3,2,1)],3,(.agg #[.int .u8 0,.int .i64 0,.int .i64 0])⟩
theorem ty64_ok:TIok Tryz.prog 64 ty64:=⟨by kernel_rfl,by kernel_rfl,by kernel_rfl⟩
def ty66:TI:=⟨.func,1,(.nilFunc)⟩
theorem ty66_ok:TIok Tryz.prog 66 ty66:=⟨by kernel_rfl,by kernel_rfl,by kernel_rfl⟩
def ty67:TI:=⟨.func,1,(.nilFunc)⟩
theorem ty67_ok:TIok Tryz.prog 67 ty67:=⟨by kernel_rfl,by kernel_rfl,by kernel_rfl⟩
def ty68:TI:=⟨.slice 70 5 40,1,(.slice none 0 0)⟩
theorem ty68_ok:TIok Tryz.prog 68 ty68:=⟨by kernel_rfl,by kernel_rfl,by kernel_rfl⟩
def ty69:TI:=⟨.struct [(5,0,1),(5,1,1),(5,2,1),(3,3,1),(68,4,1)],5,(.agg #[.int .u8 0,.int .u8 0,.int .u8 0,.int .i64 0,.slice none 0 0])⟩
theorem ty69_ok:TIok Tryz.prog 69 ty69:=⟨by kernel_rfl,by kernel_rfl,by kernel_rfl⟩
def ty70:TI:=⟨.struct [(5,0,1),(5,1,1),(5,2,1),(3,3,1),(68,4,1)],5,(.agg #[.int .u8 0,.int .u8 0,.int .u8 0,.int .i64 0,.slice none 0 0])⟩
theorem ty70_ok:TIok Tryz.prog 70 ty70:=⟨by kernel_rfl,by kernel_rfl,by kernel_rfl⟩
def ty71:TI:=⟨.struct [(9,0,1),(3,1,1),(3,2,1),(70,3,5)],8,(.agg #[.string ⟨#[]⟩,.int .i64 0,.int .i64 0,.int .u8 0,.int .u8 0,.int .u8 0,.int .i64 0,.slice none 0 0])⟩
theorem ty71_ok:TIok Tryz.prog 71 ty71:=⟨by kernel_rfl,by kernel_rfl,by kernel_rfl⟩
def ty72:TI:=⟨.struct [(9,0,1),(3,1,1),(3,2,1),(70,3,5)],8,(.agg #[.string ⟨#[]⟩,.int .i64 0,.int .i64 0,.int .u8 0,.int .u8 0,.int .u8 0,.int .i64 0,.slice none 0 0])⟩
theorem ty72_ok:TIok Tryz.prog 72 ty72:=⟨by kernel_rfl,by kernel_rfl,by kernel_rfl⟩
def ty73:TI:=⟨.slice 83 19 128,1,(.slice none 0 0)⟩
theorem ty73_ok:TIok Tryz.prog 73 ty73:=⟨by kernel_rfl,by kernel_rfl,by kernel_rfl⟩
def ty75:TI:=⟨.func,1,(.nilFunc)⟩
theorem ty75_ok:TIok Tryz.prog 75 ty75:=⟨by kernel_rfl,by kernel_rfl,by kernel_rfl⟩
def ty76:TI:=⟨.func,1,(.nilFunc)⟩
theorem ty76_ok:TIok Tryz.prog 76 ty76:=⟨by kernel_rfl,by kernel_rfl,by kernel_rfl⟩
def ty77:TI:=⟨.func,1,(.nilFunc)⟩
theorem ty77_ok:TIok Tryz.prog 77 ty77:=⟨by kernel_rfl,by kernel_rfl,by kernel_rfl⟩
def ty79:TI:=⟨.func,1,(.nilFunc)⟩
theorem ty79_ok:TIok Tryz.prog 79 ty79:=⟨by kernel_rfl,by kernel_rfl,by kernel_rfl⟩
def ty81:TI:=⟨.func,1,(.nilFunc)⟩
theorem ty81_ok:TIok Tryz.prog 81 ty81:=⟨by kernel_rfl,by kernel_rfl,by kernel_rfl⟩
def ty82:TI:=⟨.struct [(3,0,1),(3,1,1),(38,2,7),(38,9,7),(3,16,1),(9,17,1),(4,18,1)],19,(.agg (List.replicate 4 (.int .i64 0) ++ List.replicate 3 (.bool false) ++ List.replicate 4 (.int .i64 0) ++ List.replicate 3 (.bool false) ++ List.replicate 3 (.int .i64 0) ++ [.string ⟨#[]⟩] ++ [.bool false]:List Value).toArray)⟩
theorem ty82_ok:TIok Tryz.prog 82 ty82:=⟨by kernel_rfl,by kernel_rfl,by kernel_rfl⟩
def ty83:TI:=⟨.struct [(3,0,1),(3,1,1),(38,2,7),(38,9,7),(3,16,1),(9,17,1),(4,18,1)],19,(.agg (List.replicate 4 (.int .i64 0) ++ List.replicate 3 (.bool false) ++ List.replicate 4 (.int .i64 0) ++ List.replicate 3 (.bool false) ++ List.replicate 3 (.int .i64 0) ++ [.string ⟨#[]⟩] ++ [.bool false]:List Value).toArray)⟩
theorem ty83_ok:TIok Tryz.prog 83 ty83:=⟨by kernel_rfl,by kernel_rfl,by kernel_rfl⟩
def ty84:TI:=⟨.func,1,(.nilFunc)⟩
theorem ty84_ok:TIok Tryz.prog 84 ty84:=⟨by kernel_rfl,by kernel_rfl,by kernel_rfl⟩
def ty85:TI:=⟨.func,1,(.nilFunc)⟩
theorem ty85_ok:TIok Tryz.prog 85 ty85:=⟨by kernel_rfl,by kernel_rfl,by kernel_rfl⟩
def ty86:TI:=⟨.slice 35 1 24,1,(.slice none 0 0)⟩
theorem ty86_ok:TIok Tryz.prog 86 ty86:=⟨by kernel_rfl,by kernel_rfl,by kernel_rfl⟩
def ty87:TI:=⟨.func,1,(.nilFunc)⟩
theorem ty87_ok:TIok Tryz.prog 87 ty87:=⟨by kernel_rfl,by kernel_rfl,by kernel_rfl⟩
def ty88:TI:=⟨.func,1,(.nilFunc)⟩
theorem ty88_ok:TIok Tryz.prog 88 ty88:=⟨by kernel_rfl,by kernel_rfl,by kernel_rfl⟩
def ty89:TI:=⟨.struct [(3,0,1),(3,1,1)],2,(.agg #[.int .i64 0,.int .i64 0])⟩
theorem ty89_ok:TIok Tryz.prog 89 ty89:=⟨by kernel_rfl,by kernel_rfl,by kernel_rfl⟩
def ty90:TI:=⟨.struct [(3,0,1),(3,1,1)],2,(.agg #[.int .i64 0,.int .i64 0])⟩
theorem ty90_ok:TIok Tryz.prog 90 ty90:=⟨by kernel_rfl,by kernel_rfl,by kernel_rfl⟩
def ty91:TI:=⟨.func,1,(.nilFunc)⟩
theorem ty91_ok:TIok Tryz.prog 91 ty91:=⟨by kernel_rfl,by kernel_rfl,by kernel_rfl⟩
def ty93:TI:=⟨.func,1,(.nilFunc)⟩
theorem ty93_ok:TIok Tryz.prog 93 ty93:=⟨by kernel_rfl,by kernel_rfl,by kernel_rfl⟩
def ty94:TI:=⟨.func,1,(.nilFunc)⟩
theorem ty94_ok:TIok Tryz.prog 94 ty94:=⟨by kernel_rfl,by kernel_rfl,by kernel_rfl⟩
def ty95:TI:=⟨.func,1,(.nilFunc)⟩
theorem ty95_ok:TIok Tryz.prog 95 ty95:=⟨by kernel_rfl,by kernel_rfl,by kernel_rfl⟩
def ty96:TI:=⟨.func,1,(.nilFunc)⟩
theorem ty96_ok:TIok Tryz.prog 96 ty96:=⟨by kernel_rfl,by kernel_rfl,by kernel_rfl⟩
def ty97:TI:=⟨.func,1,(.nilFunc)⟩
theorem ty97_ok:TIok Tryz.prog 97 ty97:=⟨by kernel_rfl,by kernel_rfl,by kernel_rfl⟩
def ty98:TI:=⟨.func,1,(.nilFunc)⟩
theorem ty98_ok:TIok Tryz.prog 98 ty98:=⟨by kernel_rfl,by kernel_rfl,by kernel_rfl⟩
def ty99:TI:=⟨.slice 55 9 80,1,(.slice none 0 0)⟩
theorem ty99_ok:TIok Tryz.prog 99 ty99:=⟨by kernel_rfl,by kernel_rfl,by kernel_rfl⟩
def ty100:TI:=⟨.func,1,(.nilFunc)⟩
theorem ty100_ok:TIok Tryz.prog 100 ty100:=⟨by kernel_rfl,by kernel_rfl,by kernel_rfl⟩
def ty101:TI:=⟨.func,1,(.nilFunc)⟩
theorem ty101_ok:TIok Tryz.prog 101 ty101:=⟨by kernel_rfl,by kernel_rfl,by kernel_rfl⟩
def ty102:TI:=⟨.func,1,(.nilFunc)⟩
theorem ty102_ok:TIok Tryz.prog 102 ty102:=⟨by kernel_rfl,by kernel_rfl,by kernel_rfl⟩
def ty103:TI:=⟨.func,1,(.nilFunc)⟩
theorem ty103_ok:TIok Tryz.prog 103 ty103:=⟨by kernel_rfl,by kernel_rfl,by kernel_rfl⟩
def ty104:TI:=⟨.ptr 29,1,(.pointer none)⟩
theorem ty104_ok:TIok Tryz.prog 104 ty104:=⟨by kernel_rfl,by kernel_rfl,by kernel_rfl⟩
def ty105:TI:=⟨.func,1,(.nilFunc)⟩
theorem ty105_ok:TIok Tryz.prog 105 ty105:=⟨by kernel_rfl,by kernel_rfl,by kernel_rfl⟩
def ty106:TI:=⟨.func,1,(.nilFunc)⟩
theorem ty106_ok:TIok Tryz.prog 106 ty106:=⟨by kernel_rfl,by kernel_rfl,by kernel_rfl⟩
def ty108:TI:=⟨.func,1,(.nilFunc)⟩
theorem ty108_ok:TIok Tryz.prog 108 ty108:=⟨by kernel_rfl,by kernel_rfl,by kernel_rfl⟩
def ty109:TI:=⟨.func,1,(.nilFunc)⟩
theorem ty109_ok:TIok Tryz.prog 109 ty109:=⟨by kernel_rfl,by kernel_rfl,by kernel_rfl⟩
def ty110:TI:=⟨.func,1,(.nilFunc)⟩
theorem ty110_ok:TIok Tryz.prog 110 ty110:=⟨by kernel_rfl,by kernel_rfl,by kernel_rfl⟩
def ty111:TI:=⟨.func,1,(.nilFunc)⟩
theorem ty111_ok:TIok Tryz.prog 111 ty111:=⟨by kernel_rfl,by kernel_rfl,by kernel_rfl⟩
def ty112:TI:=⟨.func,1,(.nilFunc)⟩
theorem ty112_ok:TIok Tryz.prog 112 ty112:=⟨by kernel_rfl,by kernel_rfl,by kernel_rfl⟩
def ty114:TI:=⟨.func,1,(.nilFunc)⟩
theorem ty114_ok:TIok Tryz.prog 114 ty114:=⟨by kernel_rfl,by kernel_rfl,by kernel_rfl⟩
def ty115:TI:=⟨.func,1,(.nilFunc)⟩
theorem ty115_ok:TIok Tryz.prog 115 ty115:=⟨by kernel_rfl,by kernel_rfl,by kernel_rfl⟩
def ty116:TI:=⟨.func,1,(.nilFunc)⟩
theorem ty116_ok:TIok Tryz.prog 116 ty116:=⟨by kernel_rfl,by kernel_rfl,by kernel_rfl⟩
def ty117:TI:=⟨.func,1,(.nilFunc)⟩
theorem ty117_ok:TIok Tryz.prog 117 ty117:=⟨by kernel_rfl,by kernel_rfl,by kernel_rfl⟩
def ty118:TI:=⟨.func,1,(.nilFunc)⟩
theorem ty118_ok:TIok Tryz.prog 118 ty118:=⟨by kernel_rfl,by kernel_rfl,by kernel_rfl⟩
def ty119:TI:=⟨.func,1,(.nilFunc)⟩
theorem ty119_ok:TIok Tryz.prog 119 ty119:=⟨by kernel_rfl,by kernel_rfl,by kernel_rfl⟩
def ty120:TI:=⟨.func,1,(.nilFunc)⟩
theorem ty120_ok:TIok Tryz.prog 120 ty120:=⟨by kernel_rfl,by kernel_rfl,by kernel_rfl⟩
def ty121:TI:=⟨.func,1,(.nilFunc)⟩
theorem ty121_ok:TIok Tryz.prog 121 ty121:=⟨by kernel_rfl,by kernel_rfl,by kernel_rfl⟩
def ty122:TI:=⟨.func,1,(.nilFunc)⟩
theorem ty122_ok:TIok Tryz.prog 122 ty122:=⟨by kernel_rfl,by kernel_rfl,by kernel_rfl⟩
def ty123:TI:=⟨.ptr 131,1,(.pointer none)⟩
theorem ty123_ok:TIok Tryz.prog 123 ty123:=⟨by kernel_rfl,by kernel_rfl,by kernel_rfl⟩
def ty125:TI:=⟨.func,1,(.nilFunc)⟩
theorem ty125_ok:TIok Tryz.prog 125 ty125:=⟨by kernel_rfl,by kernel_rfl,by kernel_rfl⟩
def ty126:TI:=⟨.func,1,(.nilFunc)⟩
theorem ty126_ok:TIok Tryz.prog 126 ty126:=⟨by kernel_rfl,by kernel_rfl,by kernel_rfl⟩
def ty127:TI:=⟨.arr 24 4 1,24,(.agg (List.replicate 24 (.bool false):List Value).toArray)⟩
theorem ty127_ok:TIok Tryz.prog 127 ty127:=⟨by kernel_rfl,by kernel_rfl,by kernel_rfl⟩
def ty128:TI:=⟨.arr 24 4 1,24,(.agg (List.replicate 24 (.bool false):List Value).toArray)⟩
theorem ty128_ok:TIok Tryz.prog 128 ty128:=⟨by kernel_rfl,by kernel_rfl,by kernel_rfl⟩
def ty129:TI:=⟨.arr 24 128 24,576,(.agg (List.replicate 576 (.bool false):List Value).toArray)⟩
theorem ty129_ok:TIok Tryz.prog 129 ty129:=⟨by kernel_rfl,by kernel_rfl,by kernel_rfl⟩
def ty130:TI:=⟨.struct [(3,0,1),(129,1,576),(129,577,576)],1153,(.agg ([.int .i64 0] ++ List.replicate 1152 (.bool false):List Value).toArray)⟩
theorem ty130_ok:TIok Tryz.prog 130 ty130:=⟨by kernel_rfl,by kernel_rfl,by kernel_rfl⟩
def ty131:TI:=⟨.struct [(3,0,1),(129,1,576),(129,577,576)],1153,(.agg ([.int .i64 0] ++ List.replicate 1152 (.bool false):List Value).toArray)⟩
theorem ty131_ok:TIok Tryz.prog 131 ty131:=⟨by kernel_rfl,by kernel_rfl,by kernel_rfl⟩
def ty132:TI:=⟨.arr 24 3 1,24,(.agg (List.replicate 24 (.int .i64 0):List Value).toArray)⟩
theorem ty132_ok:TIok Tryz.prog 132 ty132:=⟨by kernel_rfl,by kernel_rfl,by kernel_rfl⟩
def ty133:TI:=⟨.func,1,(.nilFunc)⟩
theorem ty133_ok:TIok Tryz.prog 133 ty133:=⟨by kernel_rfl,by kernel_rfl,by kernel_rfl⟩
def ty134:TI:=⟨.func,1,(.nilFunc)⟩
theorem ty134_ok:TIok Tryz.prog 134 ty134:=⟨by kernel_rfl,by kernel_rfl,by kernel_rfl⟩
def ty135:TI:=⟨.func,1,(.nilFunc)⟩
theorem ty135_ok:TIok Tryz.prog 135 ty135:=⟨by kernel_rfl,by kernel_rfl,by kernel_rfl⟩
def ty136:TI:=⟨.func,1,(.nilFunc)⟩
theorem ty136_ok:TIok Tryz.prog 136 ty136:=⟨by kernel_rfl,by kernel_rfl,by kernel_rfl⟩
def ty137:TI:=⟨.func,1,(.nilFunc)⟩
theorem ty137_ok:TIok Tryz.prog 137 ty137:=⟨by kernel_rfl,by kernel_rfl,by kernel_rfl⟩
def ty138:TI:=⟨.func,1,(.nilFunc)⟩
theorem ty138_ok:TIok Tryz.prog 138 ty138:=⟨by kernel_rfl,by kernel_rfl,by kernel_rfl⟩
def ty139:TI:=⟨.func,1,(.nilFunc)⟩
theorem ty139_ok:TIok Tryz.prog 139 ty139:=⟨by kernel_rfl,by kernel_rfl,by kernel_rfl⟩
def ty140:TI:=⟨.func,1,(.nilFunc)⟩
theorem ty140_ok:TIok Tryz.prog 140 ty140:=⟨by kernel_rfl,by kernel_rfl,by kernel_rfl⟩
def ty141:TI:=⟨.func,1,(.nilFunc)⟩
theorem ty141_ok:TIok Tryz.prog 141 ty141:=⟨by kernel_rfl,by kernel_rfl,by kernel_rfl⟩
def ty142:TI:=⟨.func,1,(.nilFunc)⟩
theorem ty142_ok:TIok Tryz.prog 142 ty142:=⟨by kernel_rfl,by kernel_rfl,by kernel_rfl⟩
def ty143:TI:=⟨.func,1,(.nilFunc)⟩
theorem ty143_ok:TIok Tryz.prog 143 ty143:=⟨by kernel_rfl,by kernel_rfl,by kernel_rfl⟩
def ty144:TI:=⟨.func,1,(.nilFunc)⟩
theorem ty144_ok:TIok Tryz.prog 144 ty144:=⟨by kernel_rfl,by kernel_rfl,by kernel_rfl⟩
def ty145:TI:=⟨.func,1,(.nilFunc)⟩
theorem ty145_ok:TIok Tryz.prog 145 ty145:=⟨by kernel_rfl,by kernel_rfl,by kernel_rfl⟩
def ty146:TI:=⟨.func,1,(.nilFunc)⟩
theorem ty146_ok:TIok Tryz.prog 146 ty146:=⟨by kernel_rfl,by kernel_rfl,by kernel_rfl⟩
def ty147:TI:=⟨.func,1,(.nilFunc)⟩
theorem ty147_ok:TIok Tryz.prog 147 ty147:=⟨by kernel_rfl,by kernel_rfl,by kernel_rfl⟩
def ty148:TI:=⟨.func,1,(.nilFunc)⟩
theorem ty148_ok:TIok Tryz.prog 148 ty148:=⟨by kernel_rfl,by kernel_rfl,by kernel_rfl⟩
def ty149:TI:=⟨.func,1,(.nilFunc)⟩
theorem ty149_ok:TIok Tryz.prog 149 ty149:=⟨by kernel_rfl,by kernel_rfl,by kernel_rfl⟩
def ty150:TI:=⟨.func,1,(.nilFunc)⟩
theorem ty150_ok:TIok Tryz.prog 150 ty150:=⟨by kernel_rfl,by kernel_rfl,by kernel_rfl⟩
def ty151:TI:=⟨.func,1,(.nilFunc)⟩
theorem ty151_ok:TIok Tryz.prog 151 ty151:=⟨by kernel_rfl,by kernel_rfl,by kernel_rfl⟩
def ty152:TI:=⟨.map 90 4,1,(.map none)⟩
theorem ty152_ok:TIok Tryz.prog 152 ty152:=⟨by kernel_rfl,by kernel_rfl,by kernel_rfl⟩
def ty153:TI:=⟨.func,1,(.nilFunc)⟩
theorem ty153_ok:TIok Tryz.prog 153 ty153:=⟨by kernel_rfl,by kernel_rfl,by kernel_rfl⟩
def ty154:TI:=⟨.func,1,(.nilFunc)⟩
theorem ty154_ok:TIok Tryz.prog 154 ty154:=⟨by kernel_rfl,by kernel_rfl,by kernel_rfl⟩
def ty155:TI:=⟨.func,1,(.nilFunc)⟩
theorem ty155_ok:TIok Tryz.prog 155 ty155:=⟨by kernel_rfl,by kernel_rfl,by kernel_rfl⟩
def ty156:TI:=⟨.func,1,(.nilFunc)⟩
theorem ty156_ok:TIok Tryz.prog 156 ty156:=⟨by kernel_rfl,by kernel_rfl,by kernel_rfl⟩
def ty157:TI:=⟨.func,1,(.nilFunc)⟩
theorem ty157_ok:TIok Tryz.prog 157 ty157:=⟨by kernel_rfl,by kernel_rfl,by kernel_rfl⟩
def ty158:TI:=⟨.ptr 161,1,(.pointer none)⟩
theorem ty158_ok:TIok Tryz.prog 158 ty158:=⟨by kernel_rfl,by kernel_rfl,by kernel_rfl⟩
def ty159:TI:=⟨.map 3 4,1,(.map none)⟩
theorem ty159_ok:TIok Tryz.prog 159 ty159:=⟨by kernel_rfl,by kernel_rfl,by kernel_rfl⟩
def ty160:TI:=⟨.struct [(159,0,1),(159,1,1),(3,2,1),(3,3,1)],4,(.agg #[.map none,.map none,.int .i64 0,.int .i64 0])⟩
theorem ty160_ok:TIok Tryz.prog 160 ty160:=⟨by kernel_rfl,by kernel_rfl,by kernel_rfl⟩
def ty161:TI:=⟨.struct [(159,0,1),(159,1,1),(3,2,1),(3,3,1)],4,(.agg #[.map none,.map none,.int .i64 0,.int .i64 0])⟩
theorem ty161_ok:TIok Tryz.prog 161 ty161:=⟨by kernel_rfl,by kernel_rfl,by kernel_rfl⟩
def ty162:TI:=⟨.func,1,(.nilFunc)⟩
theorem ty162_ok:TIok Tryz.prog 162 ty162:=⟨by kernel_rfl,by kernel_rfl,by kernel_rfl⟩
def ty163:TI:=⟨.int .u64,1,(.int .u64 0)⟩
theorem ty163_ok:TIok Tryz.prog 163 ty163:=⟨by kernel_rfl,by kernel_rfl,by kernel_rfl⟩
def ty164:TI:=⟨.func,1,(.nilFunc)⟩
theorem ty164_ok:TIok Tryz.prog 164 ty164:=⟨by kernel_rfl,by kernel_rfl,by kernel_rfl⟩
def ty165:TI:=⟨.func,1,(.nilFunc)⟩
theorem ty165_ok:TIok Tryz.prog 165 ty165:=⟨by kernel_rfl,by kernel_rfl,by kernel_rfl⟩
def ty166:TI:=⟨.func,1,(.nilFunc)⟩
theorem ty166_ok:TIok Tryz.prog 166 ty166:=⟨by kernel_rfl,by kernel_rfl,by kernel_rfl⟩
def ty167:TI:=⟨.func,1,(.nilFunc)⟩
theorem ty167_ok:TIok Tryz.prog 167 ty167:=⟨by kernel_rfl,by kernel_rfl,by kernel_rfl⟩
def ty168:TI:=⟨.func,1,(.nilFunc)⟩
theorem ty168_ok:TIok Tryz.prog 168 ty168:=⟨by kernel_rfl,by kernel_rfl,by kernel_rfl⟩
def ty169:TI:=⟨.func,1,(.nilFunc)⟩
theorem ty169_ok:TIok Tryz.prog 169 ty169:=⟨by kernel_rfl,by kernel_rfl,by kernel_rfl⟩
def ty170:TI:=⟨.func,1,(.nilFunc)⟩
theorem ty170_ok:TIok Tryz.prog 170 ty170:=⟨by kernel_rfl,by kernel_rfl,by kernel_rfl⟩
def ty171:TI:=⟨.arr 24 127 24,576,(.agg (List.replicate 576 (.bool false):List Value).toArray)⟩
theorem ty171_ok:TIok Tryz.prog 171 ty171:=⟨by kernel_rfl,by kernel_rfl,by kernel_rfl⟩
def ty172:TI:=⟨.func,1,(.nilFunc)⟩
theorem ty172_ok:TIok Tryz.prog 172 ty172:=⟨by kernel_rfl,by kernel_rfl,by kernel_rfl⟩
def ty173:TI:=⟨.func,1,(.nilFunc)⟩
theorem ty173_ok:TIok Tryz.prog 173 ty173:=⟨by kernel_rfl,by kernel_rfl,by kernel_rfl⟩
def ty174:TI:=⟨.func,1,(.nilFunc)⟩
theorem ty174_ok:TIok Tryz.prog 174 ty174:=⟨by kernel_rfl,by kernel_rfl,by kernel_rfl⟩
def ty175:TI:=⟨.func,1,(.nilFunc)⟩
theorem ty175_ok:TIok Tryz.prog 175 ty175:=⟨by kernel_rfl,by kernel_rfl,by kernel_rfl⟩
def ty176:TI:=⟨.func,1,(.nilFunc)⟩
theorem ty176_ok:TIok Tryz.prog 176 ty176:=⟨by kernel_rfl,by kernel_rfl,by kernel_rfl⟩
def ty177:TI:=⟨.func,1,(.nilFunc)⟩
theorem ty177_ok:TIok Tryz.prog 177 ty177:=⟨by kernel_rfl,by kernel_rfl,by kernel_rfl⟩
def ty178:TI:=⟨.func,1,(.nilFunc)⟩
theorem ty178_ok:TIok Tryz.prog 178 ty178:=⟨by kernel_rfl,by kernel_rfl,by kernel_rfl⟩
def ty179:TI:=⟨.func,1,(.nilFunc)⟩
theorem ty179_ok:TIok Tryz.prog 179 ty179:=⟨by kernel_rfl,by kernel_rfl,by kernel_rfl⟩
def ty180:TI:=⟨.slice 142 1 8,1,(.slice none 0 0)⟩
theorem ty180_ok:TIok Tryz.prog 180 ty180:=⟨by kernel_rfl,by kernel_rfl,by kernel_rfl⟩
def ty181:TI:=⟨.func,1,(.nilFunc)⟩
theorem ty181_ok:TIok Tryz.prog 181 ty181:=⟨by kernel_rfl,by kernel_rfl,by kernel_rfl⟩
def ty182:TI:=⟨.func,1,(.nilFunc)⟩
theorem ty182_ok:TIok Tryz.prog 182 ty182:=⟨by kernel_rfl,by kernel_rfl,by kernel_rfl⟩
def ty183:TI:=⟨.func,1,(.nilFunc)⟩
theorem ty183_ok:TIok Tryz.prog 183 ty183:=⟨by kernel_rfl,by kernel_rfl,by kernel_rfl⟩
def ty184:TI:=⟨.func,1,(.nilFunc)⟩
theorem ty184_ok:TIok Tryz.prog 184 ty184:=⟨by kernel_rfl,by kernel_rfl,by kernel_rfl⟩
def ty185:TI:=⟨.func,1,(.nilFunc)⟩
theorem ty185_ok:TIok Tryz.prog 185 ty185:=⟨by kernel_rfl,by kernel_rfl,by kernel_rfl⟩
def ty186:TI:=⟨.func,1,(.nilFunc)⟩
theorem ty186_ok:TIok Tryz.prog 186 ty186:=⟨by kernel_rfl,by kernel_rfl,by kernel_rfl⟩
def ty187:TI:=⟨.func,1,(.nilFunc)⟩
theorem ty187_ok:TIok Tryz.prog 187 ty187:=⟨by kernel_rfl,by kernel_rfl,by kernel_rfl⟩
def ty188:TI:=⟨.func,1,(.nilFunc)⟩
theorem ty188_ok:TIok Tryz.prog 188 ty188:=⟨by kernel_rfl,by kernel_rfl,by kernel_rfl⟩
def ty189:TI:=⟨.func,1,(.nilFunc)⟩
theorem ty189_ok:TIok Tryz.prog 189 ty189:=⟨by kernel_rfl,by kernel_rfl,by kernel_rfl⟩
def ty190:TI:=⟨.func,1,(.nilFunc)⟩
theorem ty190_ok:TIok Tryz.prog 190 ty190:=⟨by kernel_rfl,by kernel_rfl,by kernel_rfl⟩
def ty191:TI:=⟨.func,1,(.nilFunc)⟩
theorem ty191_ok:TIok Tryz.prog 191 ty191:=⟨by kernel_rfl,by kernel_rfl,by kernel_rfl⟩
def ty192:TI:=⟨.func,1,(.nilFunc)⟩
theorem ty192_ok:TIok Tryz.prog 192 ty192:=⟨by kernel_rfl,by kernel_rfl,by kernel_rfl⟩
def ty193:TI:=⟨.func,1,(.nilFunc)⟩
theorem ty193_ok:TIok Tryz.prog 193 ty193:=⟨by kernel_rfl,by kernel_rfl,by kernel_rfl⟩
def ty195:TI:=⟨.func,1,(.nilFunc)⟩
theorem ty195_ok:TIok Tryz.prog 195 ty195:=⟨by kernel_rfl,by kernel_rfl,by kernel_rfl⟩
def ty196:TI:=⟨.func,1,(.nilFunc)⟩
theorem ty196_ok:TIok Tryz.prog 196 ty196:=⟨by kernel_rfl,by kernel_rfl,by kernel_rfl⟩
def ty197:TI:=⟨.func,1,(.nilFunc)⟩
theorem ty197_ok:TIok Tryz.prog 197 ty197:=⟨by kernel_rfl,by kernel_rfl,by kernel_rfl⟩
def ty198:TI:=⟨.func,1,(.nilFunc)⟩
theorem ty198_ok:TIok Tryz.prog 198 ty198:=⟨by kernel_rfl,by kernel_rfl,by kernel_rfl⟩
def ty199:TI:=⟨.func,1,(.nilFunc)⟩
theorem ty199_ok:TIok Tryz.prog 199 ty199:=⟨by kernel_rfl,by kernel_rfl,by kernel_rfl⟩
def ty200:TI:=⟨.slice 203 3 32,1,(.slice none 0 0)⟩
theorem ty200_ok:TIok Tryz.prog 200 ty200:=⟨by kernel_rfl,by kernel_rfl,by kernel_rfl⟩
def ty201:TI:=⟨.func,1,(.nilFunc)⟩
theorem ty201_ok:TIok Tryz.prog 201 ty201:=⟨by kernel_rfl,by kernel_rfl,by kernel_rfl⟩
def ty202:TI:=⟨.struct [(3,0,1),(4,1,1),(9,2,1)],3,(.agg #[.int .i64 0,.bool false,.string ⟨#[]⟩])⟩
theorem ty202_ok:TIok Tryz.prog 202 ty202:=⟨by kernel_rfl,by kernel_rfl,by kernel_rfl⟩
def ty203:TI:=⟨.struct [(3,0,1),(4,1,1),(9,2,1)],3,(.agg #[.int .i64 0,.bool false,.string ⟨#[]⟩])⟩
theorem ty203_ok:TIok Tryz.prog 203 ty203:=⟨by kernel_rfl,by kernel_rfl,by kernel_rfl⟩
def ty204:TI:=⟨.func,1,(.nilFunc)⟩
theorem ty204_ok:TIok Tryz.prog 204 ty204:=⟨by kernel_rfl,by kernel_rfl,by kernel_rfl⟩
def ty205:TI:=⟨.func,1,(.nilFunc)⟩
theorem ty205_ok:TIok Tryz.prog 205 ty205:=⟨by kernel_rfl,by kernel_rfl,by kernel_rfl⟩
def ty206:TI:=⟨.func,1,(.nilFunc)⟩
theorem ty206_ok:TIok Tryz.prog 206 ty206:=⟨by kernel_rfl,by kernel_rfl,by kernel_rfl⟩
def ty207:TI:=⟨.func,1,(.nilFunc)⟩
theorem ty207_ok:TIok Tryz.prog 207 ty207:=⟨by kernel_rfl,by kernel_rfl,by kernel_rfl⟩
def ty208:TI:=⟨.func,1,(.nilFunc)⟩
theorem ty208_ok:TIok Tryz.prog 208 ty208:=⟨by kernel_rfl,by kernel_rfl,by kernel_rfl⟩
def ty209:TI:=⟨.func,1,(.nilFunc)⟩
theorem ty209_ok:TIok Tryz.prog 209 ty209:=⟨by kernel_rfl,by kernel_rfl,by kernel_rfl⟩
def ty211:TI:=⟨.func,1,(.nilFunc)⟩
theorem ty211_ok:TIok Tryz.prog 211 ty211:=⟨by kernel_rfl,by kernel_rfl,by kernel_rfl⟩
def ty212:TI:=⟨.func,1,(.nilFunc)⟩
theorem ty212_ok:TIok Tryz.prog 212 ty212:=⟨by kernel_rfl,by kernel_rfl,by kernel_rfl⟩
def ty213:TI:=⟨.func,1,(.nilFunc)⟩
theorem ty213_ok:TIok Tryz.prog 213 ty213:=⟨by kernel_rfl,by kernel_rfl,by kernel_rfl⟩
def ty214:TI:=⟨.struct [(64,0,3),(3,3,1)],4,(.agg #[.int .u8 0,.int .i64 0,.int .i64 0,.int .i64 0])⟩
theorem ty214_ok:TIok Tryz.prog 214 ty214:=⟨by kernel_rfl,by kernel_rfl,by kernel_rfl⟩
def ty215:TI:=⟨.struct [(64,0,3),(3,3,1)],4,(.agg #[.int .u8 0,.int .i64 0,.int .i64 0,.int .i64 0])⟩
theorem ty215_ok:TIok Tryz.prog 215 ty215:=⟨by kernel_rfl,by kernel_rfl,by kernel_rfl⟩
def ty216:TI:=⟨.func,1,(.nilFunc)⟩
theorem ty216_ok:TIok Tryz.prog 216 ty216:=⟨by kernel_rfl,by kernel_rfl,by kernel_rfl⟩
def ty217:TI:=⟨.func,1,(.nilFunc)⟩
theorem ty217_ok:TIok Tryz.prog 217 ty217:=⟨by kernel_rfl,by kernel_rfl,by kernel_rfl⟩
def ty218:TI:=⟨.func,1,(.nilFunc)⟩
theorem ty218_ok:TIok Tryz.prog 218 ty218:=⟨by kernel_rfl,by kernel_rfl,by kernel_rfl⟩
def ty219:TI:=⟨.struct [(9,0,1),(217,1,1),(186,2,1),(218,3,1),(4,4,1)],5,(.agg #[.string ⟨#[]⟩,.nilFunc,.nilFunc,.nilFunc,.bool false])⟩
theorem ty219_ok:TIok Tryz.prog 219 ty219:=⟨by kernel_rfl,by kernel_rfl,by kernel_rfl⟩
def ty220:TI:=⟨.struct [(9,0,1),(217,1,1),(186,2,1),(218,3,1),(4,4,1)],5,(.agg #[.string ⟨#[]⟩,.nilFunc,.nilFunc,.nilFunc,.bool false])⟩
theorem ty220_ok:TIok Tryz.prog 220 ty220:=⟨by kernel_rfl,by kernel_rfl,by kernel_rfl⟩
def ty222:TI:=⟨.func,1,(.nilFunc)⟩
theorem ty222_ok:TIok Tryz.prog 222 ty222:=⟨by kernel_rfl,by kernel_rfl,by kernel_rfl⟩
def ty223:TI:=⟨.func,1,(.nilFunc)⟩
theorem ty223_ok:TIok Tryz.prog 223 ty223:=⟨by kernel_rfl,by kernel_rfl,by kernel_rfl⟩
def ty224:TI:=⟨.func,1,(.nilFunc)⟩
theorem ty224_ok:TIok Tryz.prog 224 ty224:=⟨by kernel_rfl,by kernel_rfl,by kernel_rfl⟩
def ty225:TI:=⟨.func,1,(.nilFunc)⟩
theorem ty225_ok:TIok Tryz.prog 225 ty225:=⟨by kernel_rfl,by kernel_rfl,by kernel_rfl⟩
def ty226:TI:=⟨.func,1,(.nilFunc)⟩
theorem ty226_ok:TIok Tryz.prog 226 ty226:=⟨by kernel_rfl,by kernel_rfl,by kernel_rfl⟩
def ty227:TI:=⟨.struct [(3,0,1),(3,1,1),(4,2,1),(4,3,1),(4,4,1),(3,5,1),(3,6,1)],7,(.agg #[.int .i64 0,.int .i64 0,.bool false,.bool false,.bool false,.int .i64 0,.int .i64 0])⟩
theorem ty227_ok:TIok Tryz.prog 227 ty227:=⟨by kernel_rfl,by kernel_rfl,by kernel_rfl⟩
def ty228:TI:=⟨.arr 8 225 1,8,(.agg #[.nilFunc,.nilFunc,.nilFunc,.nilFunc,.nilFunc,.nilFunc,.nilFunc,.nilFunc])⟩
theorem ty228_ok:TIok Tryz.prog 228 ty228:=⟨by kernel_rfl,by kernel_rfl,by kernel_rfl⟩
def ty229:TI:=⟨.func,1,(.nilFunc)⟩
theorem ty229_ok:TIok Tryz.prog 229 ty229:=⟨by kernel_rfl,by kernel_rfl,by kernel_rfl⟩
def ty230:TI:=⟨.func,1,(.nilFunc)⟩
theorem ty230_ok:TIok Tryz.prog 230 ty230:=⟨by kernel_rfl,by kernel_rfl,by kernel_rfl⟩
def ty231:TI:=⟨.func,1,(.nilFunc)⟩
theorem ty231_ok:TIok Tryz.prog 231 ty231:=⟨by kernel_rfl,by kernel_rfl,by kernel_rfl⟩
def ty232:TI:=⟨.int .i64,1,(.int .i64 0)⟩
theorem ty232_ok:TIok Tryz.prog 232 ty232:=⟨by kernel_rfl,by kernel_rfl,by kernel_rfl⟩
def ty233:TI:=⟨.func,1,(.nilFunc)⟩
theorem ty233_ok:TIok Tryz.prog 233 ty233:=⟨by kernel_rfl,by kernel_rfl,by kernel_rfl⟩
def ty234:TI:=⟨.func,1,(.nilFunc)⟩
theorem ty234_ok:TIok Tryz.prog 234 ty234:=⟨by kernel_rfl,by kernel_rfl,by kernel_rfl⟩
def ty235:TI:=⟨.func,1,(.nilFunc)⟩
theorem ty235_ok:TIok Tryz.prog 235 ty235:=⟨by kernel_rfl,by kernel_rfl,by kernel_rfl⟩
def ty236:TI:=⟨.func,1,(.nilFunc)⟩
theorem ty236_ok:TIok Tryz.prog 236 ty236:=⟨by kernel_rfl,by kernel_rfl,by kernel_rfl⟩
def ty237:TI:=⟨.struct [(3,0,1),(3,1,1)],2,(.agg #[.int .i64 0,.int .i64 0])⟩
theorem ty237_ok:TIok Tryz.prog 237 ty237:=⟨by kernel_rfl,by kernel_rfl,by kernel_rfl⟩
def ty238:TI:=⟨.struct [(3,0,1),(3,1,1)],2,(.agg #[.int .i64 0,.int .i64 0])⟩
theorem ty238_ok:TIok Tryz.prog 238 ty238:=⟨by kernel_rfl,by kernel_rfl,by kernel_rfl⟩
def ty239:TI:=⟨.struct [(238,0,2),(55,2,9)],11,(.agg #[.int .i64 0,.int .i64 0,.int .i64 0,.int .i64 0,.int .u8 0,.int .i64 0,.int .i64 0,.int .i64 0,.int .i64 0,.int .i64 0,.string ⟨#[]⟩])⟩
theorem ty239_ok:TIok Tryz.prog 239 ty239:=⟨by kernel_rfl,by kernel_rfl,by kernel_rfl⟩
def ty240:TI:=⟨.struct [(238,0,2),(55,2,9)],11,(.agg #[.int .i64 0,.int .i64 0,.int .i64 0,.int .i64 0,.int .u8 0,.int .i64 0,.int .i64 0,.int .i64 0,.int .i64 0,.int .i64 0,.string ⟨#[]⟩])⟩
theorem ty240_ok:TIok Tryz.prog 240 ty240:=⟨by kernel_rfl,by kernel_rfl,by kernel_rfl⟩
def ty241:TI:=⟨.func,1,(.nilFunc)⟩
theorem ty241_ok:TIok Tryz.prog 241 ty241:=⟨by kernel_rfl,by kernel_rfl,by kernel_rfl⟩
def ty242:TI:=⟨.int .i64,1,(.int .i64 0)⟩
theorem ty242_ok:TIok Tryz.prog 242 ty242:=⟨by kernel_rfl,by kernel_rfl,by kernel_rfl⟩
def ty244:TI:=⟨.func,1,(.nilFunc)⟩
theorem ty244_ok:TIok Tryz.prog 244 ty244:=⟨by kernel_rfl,by kernel_rfl,by kernel_rfl⟩
def ty245:TI:=⟨.func,1,(.nilFunc)⟩
theorem ty245_ok:TIok Tryz.prog 245 ty245:=⟨by kernel_rfl,by kernel_rfl,by kernel_rfl⟩
def ty246:TI:=⟨.func,1,(.nilFunc)⟩
theorem ty246_ok:TIok Tryz.prog 246 ty246:=⟨by kernel_rfl,by kernel_rfl,by kernel_rfl⟩
def ty247:TI:=⟨.func,1,(.nilFunc)⟩
theorem ty247_ok:TIok Tryz.prog 247 ty247:=⟨by kernel_rfl,by kernel_rfl,by kernel_rfl⟩
def ty248:TI:=⟨.func,1,(.nilFunc)⟩
theorem ty248_ok:TIok Tryz.prog 248 ty248:=⟨by kernel_rfl,by kernel_rfl,by kernel_rfl⟩
def ty249:TI:=⟨.int .u32,1,(.int .u32 0)⟩
theorem ty249_ok:TIok Tryz.prog 249 ty249:=⟨by kernel_rfl,by kernel_rfl,by kernel_rfl⟩
def ty250:TI:=⟨.func,1,(.nilFunc)⟩
theorem ty250_ok:TIok Tryz.prog 250 ty250:=⟨by kernel_rfl,by kernel_rfl,by kernel_rfl⟩
def ty251:TI:=⟨.int .u64,1,(.int .u64 0)⟩
theorem ty251_ok:TIok Tryz.prog 251 ty251:=⟨by kernel_rfl,by kernel_rfl,by kernel_rfl⟩
def ty252:TI:=⟨.func,1,(.nilFunc)⟩
theorem ty252_ok:TIok Tryz.prog 252 ty252:=⟨by kernel_rfl,by kernel_rfl,by kernel_rfl⟩
def ty253:TI:=⟨.func,1,(.nilFunc)⟩
theorem ty253_ok:TIok Tryz.prog 253 ty253:=⟨by kernel_rfl,by kernel_rfl,by kernel_rfl⟩
def ty254:TI:=⟨.func,1,(.nilFunc)⟩
theorem ty254_ok:TIok Tryz.prog 254 ty254:=⟨by kernel_rfl,by kernel_rfl,by kernel_rfl⟩
def ty255:TI:=⟨.func,1,(.nilFunc)⟩
theorem ty255_ok:TIok Tryz.prog 255 ty255:=⟨by kernel_rfl,by kernel_rfl,by kernel_rfl⟩
def ty256:TI:=⟨.func,1,(.nilFunc)⟩
theorem ty256_ok:TIok Tryz.prog 256 ty256:=⟨by kernel_rfl,by kernel_rfl,by kernel_rfl⟩
def ty257:TI:=⟨.func,1,(.nilFunc)⟩
theorem ty257_ok:TIok Tryz.prog 257 ty257:=⟨by kernel_rfl,by kernel_rfl,by kernel_rfl⟩
def ty258:TI:=⟨.func,1,(.nilFunc)⟩
theorem ty258_ok:TIok Tryz.prog 258 ty258:=⟨by kernel_rfl,by kernel_rfl,by kernel_rfl⟩
def ty259:TI:=⟨.func,1,(.nilFunc)⟩
theorem ty259_ok:TIok Tryz.prog 259 ty259:=⟨by kernel_rfl,by kernel_rfl,by kernel_rfl⟩
def ty260:TI:=⟨.func,1,(.nilFunc)⟩
theorem ty260_ok:TIok Tryz.prog 260 ty260:=⟨by kernel_rfl,by kernel_rfl,by kernel_rfl⟩
def ty261:TI:=⟨.func,1,(.nilFunc)⟩
theorem ty261_ok:TIok Tryz.prog 261 ty261:=⟨by kernel_rfl,by kernel_rfl,by kernel_rfl⟩
def ty262:TI:=⟨.func,1,(.nilFunc)⟩
theorem ty262_ok:TIok Tryz.prog 262 ty262:=⟨by kernel_rfl,by kernel_rfl,by kernel_rfl⟩
def ty263:TI:=⟨.slice 265 1 8,1,(.slice none 0 0)⟩
theorem ty263_ok:TIok Tryz.prog 263 ty263:=⟨by kernel_rfl,by kernel_rfl,by kernel_rfl⟩
def ty264:TI:=⟨.ptr 55,1,(.pointer none)⟩
theorem ty264_ok:TIok Tryz.prog 264 ty264:=⟨by kernel_rfl,by kernel_rfl,by kernel_rfl⟩
def ty265:TI:=⟨.ptr 3,1,(.pointer none)⟩
theorem ty265_ok:TIok Tryz.prog 265 ty265:=⟨by kernel_rfl,by kernel_rfl,by kernel_rfl⟩
def ty266:TI:=⟨.arr 12 220 5,60,(.agg ([.string ⟨#[]⟩] ++ List.replicate 3 (.nilFunc) ++ [.bool false] ++ [.string ⟨#[]⟩] ++ List.replicate 3 (.nilFunc) ++ [.bool false] ++ [.string ⟨#[]⟩] ++ List.replicate 3 (.nilFunc) ++ [.bool false] ++ [.string ⟨#[]⟩] ++ List.replicate 3 (.nilFunc) ++ [.bool false] ++ [.string ⟨#[]⟩] ++ List.replicate 3 (.nilFunc) ++ [.bool false] ++ [.string ⟨#[]⟩] ++ List.replicate 3 (.nilFunc) ++ [.bool false] ++ [.string ⟨#[]⟩] ++ List.replicate 3 (.nilFunc) ++ [.bool false] ++ [.string ⟨#[]⟩] ++ List.replicate 3 (.nilFunc) ++ [.bool false] ++ [.string ⟨#[]⟩] ++ List.replicate 3 (.nilFunc) ++ [.bool false] ++ [.string ⟨#[]⟩] ++ List.replicate 3 (.nilFunc) ++ [.bool false] ++ [.string ⟨#[]⟩] ++ List.replicate 3 (.nilFunc) ++ [.bool false] ++ [.string ⟨#[]⟩] ++ List.replicate 3 (.nilFunc) ++ [.bool false]:List Value).toArray)⟩
theorem ty266_ok:TIok Tryz.prog 266 ty266:=⟨by kernel_rfl,by kernel_rfl,by kernel_rfl⟩
def ty267:TI:=⟨.func,1,(.nilFunc)⟩
theorem ty267_ok:TIok Tryz.prog 267 ty267:=⟨by kernel_rfl,by kernel_rfl,by kernel_rfl⟩
def ty268:TI:=⟨.func,1,(.nilFunc)⟩
theorem ty268_ok:TIok Tryz.prog 268 ty268:=⟨by kernel_rfl,by kernel_rfl,by kernel_rfl⟩
def ty269:TI:=⟨.func,1,(.nilFunc)⟩
theorem ty269_ok:TIok Tryz.prog 269 ty269:=⟨by kernel_rfl,by kernel_rfl,by kernel_rfl⟩
def ty270:TI:=⟨.func,1,(.nilFunc)⟩
theorem ty270_ok:TIok Tryz.prog 270 ty270:=⟨by kernel_rfl,by kernel_rfl,by kernel_rfl⟩
def ty271:TI:=⟨.func,1,(.nilFunc)⟩
theorem ty271_ok:TIok Tryz.prog 271 ty271:=⟨by kernel_rfl,by kernel_rfl,by kernel_rfl⟩
def ty272:TI:=⟨.func,1,(.nilFunc)⟩
theorem ty272_ok:TIok Tryz.prog 272 ty272:=⟨by kernel_rfl,by kernel_rfl,by kernel_rfl⟩
def ty273:TI:=⟨.func,1,(.nilFunc)⟩
theorem ty273_ok:TIok Tryz.prog 273 ty273:=⟨by kernel_rfl,by kernel_rfl,by kernel_rfl⟩
def ty274:TI:=⟨.int .u64,1,(.int .u64 0)⟩
theorem ty274_ok:TIok Tryz.prog 274 ty274:=⟨by kernel_rfl,by kernel_rfl,by kernel_rfl⟩
def ty275:TI:=⟨.func,1,(.nilFunc)⟩
theorem ty275_ok:TIok Tryz.prog 275 ty275:=⟨by kernel_rfl,by kernel_rfl,by kernel_rfl⟩
def ty276:TI:=⟨.func,1,(.nilFunc)⟩
theorem ty276_ok:TIok Tryz.prog 276 ty276:=⟨by kernel_rfl,by kernel_rfl,by kernel_rfl⟩
def ty277:TI:=⟨.func,1,(.nilFunc)⟩
theorem ty277_ok:TIok Tryz.prog 277 ty277:=⟨by kernel_rfl,by kernel_rfl,by kernel_rfl⟩
def ty278:TI:=⟨.func,1,(.nilFunc)⟩
theorem ty278_ok:TIok Tryz.prog 278 ty278:=⟨by kernel_rfl,by kernel_rfl,by kernel_rfl⟩
def ty279:TI:=⟨.func,1,(.nilFunc)⟩
theorem ty279_ok:TIok Tryz.prog 279 ty279:=⟨by kernel_rfl,by kernel_rfl,by kernel_rfl⟩
def ty280:TI:=⟨.func,1,(.nilFunc)⟩
theorem ty280_ok:TIok Tryz.prog 280 ty280:=⟨by kernel_rfl,by kernel_rfl,by kernel_rfl⟩
def ty281:TI:=⟨.func,1,(.nilFunc)⟩
theorem ty281_ok:TIok Tryz.prog 281 ty281:=⟨by kernel_rfl,by kernel_rfl,by kernel_rfl⟩
def ty282:TI:=⟨.func,1,(.nilFunc)⟩
theorem ty282_ok:TIok Tryz.prog 282 ty282:=⟨by kernel_rfl,by kernel_rfl,by kernel_rfl⟩
def ty283:TI:=⟨.func,1,(.nilFunc)⟩
theorem ty283_ok:TIok Tryz.prog 283 ty283:=⟨by kernel_rfl,by kernel_rfl,by kernel_rfl⟩
def ty284:TI:=⟨.func,1,(.nilFunc)⟩
theorem ty284_ok:TIok Tryz.prog 284 ty284:=⟨by kernel_rfl,by kernel_rfl,by kernel_rfl⟩
def ty285:TI:=⟨.func,1,(.nilFunc)⟩
theorem ty285_ok:TIok Tryz.prog 285 ty285:=⟨by kernel_rfl,by kernel_rfl,by kernel_rfl⟩
def ty286:TI:=⟨.func,1,(.nilFunc)⟩
theorem ty286_ok:TIok Tryz.prog 286 ty286:=⟨by kernel_rfl,by kernel_rfl,by kernel_rfl⟩
def ty287:TI:=⟨.func,1,(.nilFunc)⟩
theorem ty287_ok:TIok Tryz.prog 287 ty287:=⟨by kernel_rfl,by kernel_rfl,by kernel_rfl⟩
def ty288:TI:=⟨.func,1,(.nilFunc)⟩
theorem ty288_ok:TIok Tryz.prog 288 ty288:=⟨by kernel_rfl,by kernel_rfl,by kernel_rfl⟩
def ty289:TI:=⟨.ptr 274,1,(.pointer none)⟩
theorem ty289_ok:TIok Tryz.prog 289 ty289:=⟨by kernel_rfl,by kernel_rfl,by kernel_rfl⟩
def ty290:TI:=⟨.func,1,(.nilFunc)⟩
theorem ty290_ok:TIok Tryz.prog 290 ty290:=⟨by kernel_rfl,by kernel_rfl,by kernel_rfl⟩
def ty291:TI:=⟨.func,1,(.nilFunc)⟩
theorem ty291_ok:TIok Tryz.prog 291 ty291:=⟨by kernel_rfl,by kernel_rfl,by kernel_rfl⟩
def ty292:TI:=⟨.func,1,(.nilFunc)⟩
theorem ty292_ok:TIok Tryz.prog 292 ty292:=⟨by kernel_rfl,by kernel_rfl,by kernel_rfl⟩
def ty293:TI:=⟨.func,1,(.nilFunc)⟩
theorem ty293_ok:TIok Tryz.prog 293 ty293:=⟨by kernel_rfl,by kernel_rfl,by kernel_rfl⟩
def ty294:TI:=⟨.func,1,(.nilFunc)⟩
theorem ty294_ok:TIok Tryz.prog 294 ty294:=⟨by kernel_rfl,by kernel_rfl,by kernel_rfl⟩
def ty295:TI:=⟨.func,1,(.nilFunc)⟩
theorem ty295_ok:TIok Tryz.prog 295 ty295:=⟨by kernel_rfl,by kernel_rfl,by kernel_rfl⟩
def ty296:TI:=⟨.struct [(17,0,1),(17,1,1),(17,2,1),(9,3,1)],4,(.agg #[.pointer none,.pointer none,.pointer none,.string ⟨#[]⟩])⟩
theorem ty296_ok:TIok Tryz.prog 296 ty296:=⟨by kernel_rfl,by kernel_rfl,by kernel_rfl⟩
def ty297:TI:=⟨.struct [(17,0,1),(17,1,1),(17,2,1),(9,3,1)],4,(.agg #[.pointer none,.pointer none,.pointer none,.string ⟨#[]⟩])⟩
theorem ty297_ok:TIok Tryz.prog 297 ty297:=⟨by kernel_rfl,by kernel_rfl,by kernel_rfl⟩
def ty301:TI:=⟨.int .u8,1,(.int .u8 0)⟩
theorem ty301_ok:TIok Tryz.prog 301 ty301:=⟨by kernel_rfl,by kernel_rfl,by kernel_rfl⟩
def ty302:TI:=⟨.int .u8,1,(.int .u8 0)⟩
theorem ty302_ok:TIok Tryz.prog 302 ty302:=⟨by kernel_rfl,by kernel_rfl,by kernel_rfl⟩
def ty303:TI:=⟨.func,1,(.nilFunc)⟩
theorem ty303_ok:TIok Tryz.prog 303 ty303:=⟨by kernel_rfl,by kernel_rfl,by kernel_rfl⟩
def ty304:TI:=⟨.ptr 5,1,(.pointer none)⟩
theorem ty304_ok:TIok Tryz.prog 304 ty304:=⟨by kernel_rfl,by kernel_rfl,by kernel_rfl⟩
def ty305:TI:=⟨.int .i32,1,(.int .i32 0)⟩
theorem ty305_ok:TIok Tryz.prog 305 ty305:=⟨by kernel_rfl,by kernel_rfl,by kernel_rfl⟩
def ty306:TI:=⟨.int .i32,1,(.int .i32 0)⟩
theorem ty306_ok:TIok Tryz.prog 306 ty306:=⟨by kernel_rfl,by kernel_rfl,by kernel_rfl⟩
def ty307:TI:=⟨.struct [(12,0,1),(12,1,1),(249,2,1),(301,3,1),(5,4,1),(5,5,1),(302,6,1),(303,7,1),(304,8,1),(305,9,1),(306,10,1)],11,(.agg #[.int .u64 0,.int .u64 0,.int .u32 0,.int .u8 0,.int .u8 0,.int .u8 0,.int .u8 0,.nilFunc,.pointer none,.int .i32 0,.int .i32 0])⟩
theorem ty307_ok:TIok Tryz.prog 307 ty307:=⟨by kernel_rfl,by kernel_rfl,by kernel_rfl⟩
def ty308:TI:=⟨.struct [(12,0,1),(12,1,1),(249,2,1),(301,3,1),(5,4,1),(5,5,1),(302,6,1),(303,7,1),(304,8,1),(305,9,1),(306,10,1)],11,(.agg #[.int .u64 0,.int .u64 0,.int .u32 0,.int .u8 0,.int .u8 0,.int .u8 0,.int .u8 0,.nilFunc,.pointer none,.int .i32 0,.int .i32 0])⟩
theorem ty308_ok:TIok Tryz.prog 308 ty308:=⟨by kernel_rfl,by kernel_rfl,by kernel_rfl⟩
def tab:List (Nat × TI):=[(1,ty1),(2,ty2),(3,ty3),(4,ty4),(5,ty5),(6,ty6),(7,ty7),(8,ty8),(9,ty9),(10,ty10),(11,ty11),(12,ty12),(13,ty13),(14,ty14),(15,ty15),(16,ty16),(17,ty17),(18,ty18),(19,ty19),(20,ty20),(21,ty21),(22,ty22),(23,ty23),(24,ty24),(25,ty25),(26,ty26),(27,ty27),(28,ty28),(29,ty29),(30,ty30),(31,ty31),(32,ty32),(34,ty34),(35,ty35),(36,ty36),(37,ty37),(38,ty38),(39,ty39),(40,ty40),(42,ty42),(43,ty43),(44,ty44),(45,ty45),(46,ty46),(47,ty47),(48,ty48),(49,ty49),(51,ty51),(52,ty52),(53,ty53),(54,ty54),(55,ty55),(57,ty57),(58,ty58),(59,ty59),(60,ty60),(62,ty62),(63,ty63),(64,ty64),(66,ty66),(67,ty67),(68,ty68),(69,ty69),(70,ty70),(71,ty71),(72,ty72),(73,ty73),(75,ty75),(76,ty76),(77,ty77),(79,ty79),(81,ty81),(82,ty82),(83,ty83),(84,ty84),(85,ty85),(86,ty86),(87,ty87),(88,ty88),(89,ty89),(90,ty90),(91,ty91),(93,ty93),(94,ty94),(95,ty95),(96,ty96),(97,ty97),(98,ty98),(99,ty99),(100,ty100),(101,ty101),(102,ty102),(103,ty103),(104,ty104),(105,ty105),(106,ty106),(108,ty108),(109,ty109),(110,ty110),(111,ty111),(112,ty112),(114,ty114),(115,ty115),(116,ty116),(117,ty117),(118,ty118),(119,ty119),(120,ty120),(121,ty121),(122,ty122),(123,ty123),(125,ty125),(126,ty126),(127,ty127),(128,ty128),(129,ty129),(130,ty130),(131,ty131),(132,ty132),(133,ty133),(134,ty134),(135,ty135),(136,ty136),(137,ty137),(138,ty138),(139,ty139),(140,ty140),(141,ty141),(142,ty142),(143,ty143),(144,ty144),(145,ty145),(146,ty146),(147,ty147),(148,ty148),(149,ty149),(150,ty150),(151,ty151),(152,ty152),(153,ty153),(154,ty154),(155,ty155),(156,ty156),(157,ty157),(158,ty158),(159,ty159),(160,ty160),(161,ty161),(162,ty162),(163,ty163),(164,ty164),(165,ty165),(166,ty166),(167,ty167),(168,ty168),(169,ty169),(170,ty170),(171,ty171),(172,ty172),(173,ty173),(174,ty174),(175,ty175),(176,ty176),(177,ty177),(178,ty178),(179,ty179),(180,ty180),(181,ty181),(182,ty182),(183,ty183),(184,ty184),(185,ty185),(186,ty186),(187,ty187),(188,ty188),(189,ty189),(190,ty190),(191,ty191),(192,ty192),(193,ty193),(195,ty195),(196,ty196),(197,ty197),(198,ty198),(199,ty199),(200,ty200),(201,ty201),(202,ty202),(203,ty203),(204,ty204),(205,ty205),(206,ty206),(207,ty207),(208,ty208),(209,ty209),(211,ty211),(212,ty212),(213,ty213),(214,ty214),(215,ty215),(216,ty216),(217,ty217),(218,ty218),(219,ty219),(220,ty220),(222,ty222),(223,ty223),(224,ty224),(225,ty225),(226,ty226),(227,ty227),(228,ty228),(229,ty229),(230,ty230),(231,ty231),(232,ty232),(233,ty233),(234,ty234),(235,ty235),(236,ty236),(237,ty237),(238,ty238),(239,ty239),(240,ty240),(241,ty241),(242,ty242),(244,ty244),(245,ty245),(246,ty246),(247,ty247),(248,ty248),(249,ty249),(250,ty250),(251,ty251),(252,ty252),(253,ty253),(254,ty254),(255,ty255),(256,ty256),(257,ty257),(258,ty258),(259,ty259),(260,ty260),(261,ty261),(262,ty262),(263,ty263),(264,ty264),(265,ty265),(266,ty266),(267,ty267),(268,ty268),(269,ty269),(270,ty270),(271,ty271),(272,ty272),(273,ty273),(274,ty274),(275,ty275),(276,ty276),(277,ty277),(278,ty278),(279,ty279),(280,ty280),(281,ty281),(282,ty282),(283,ty283),(284,ty284),(285,ty285),(286,ty286),(287,ty287),(288,ty288),(289,ty289),(290,ty290),(291,ty291),(292,ty292),(293,ty293),(294,ty294),(295,ty295),(296,ty296),(297,ty297),(301,ty301),(302,ty302),(303,ty303),(304,ty304),(305,ty305),(306,ty306),(307,ty307),(308,ty308)]
noncomputable def C:Cfg:=⟨Tryz.prog,tab,3,302,[],true,[]⟩
theorem funs_ok:(List.range' 3 299).all (fun g => !C.can g || callable Tryz.prog g) = true:=by kernel_rfl
set_option maxRecDepth 100000 in
theorem tab_ok:∀ e ∈ tab,TIok Tryz.prog e.1 e.2:=List.forall_mem_cons.2 ⟨ty1_ok,List.forall_mem_cons.2 ⟨ty2_ok,List.forall_mem_cons.2 ⟨ty3_ok,List.forall_mem_cons.2 ⟨ty4_ok,List.forall_mem_cons.2 ⟨ty5_ok,List.forall_mem_cons.2 ⟨ty6_ok,List.forall_mem_cons.2 ⟨ty7_ok,List.forall_mem_cons.2 ⟨ty8_ok,List.forall_mem_cons.2 ⟨ty9_ok,List.forall_mem_cons.2 ⟨ty10_ok,List.forall_mem_cons.2 ⟨ty11_ok,List.forall_mem_cons.2 ⟨ty12_ok,List.forall_mem_cons.2 ⟨ty13_ok,List.forall_mem_cons.2 ⟨ty14_ok,List.forall_mem_cons.2 ⟨ty15_ok,List.forall_mem_cons.2 ⟨ty16_ok,List.forall_mem_cons.2 ⟨ty17_ok,List.forall_mem_cons.2 ⟨ty18_ok,List.forall_mem_cons.2 ⟨ty19_ok,List.forall_mem_cons.2 ⟨ty20_ok,List.forall_mem_cons.2 ⟨ty21_ok,List.forall_mem_cons.2 ⟨ty22_ok,List.forall_mem_cons.2 ⟨ty23_ok,List.forall_mem_cons.2 ⟨ty24_ok,List.forall_mem_cons.2 ⟨ty25_ok,List.forall_mem_cons.2 ⟨ty26_ok,List.forall_mem_cons.2 ⟨ty27_ok,List.forall_mem_cons.2 ⟨ty28_ok,List.forall_mem_cons.2 ⟨ty29_ok,List.forall_mem_cons.2 ⟨ty30_ok,List.forall_mem_cons.2 ⟨ty31_ok,List.forall_mem_cons.2 ⟨ty32_ok,List.forall_mem_cons.2 ⟨ty34_ok,List.forall_mem_cons.2 ⟨ty35_ok,List.forall_mem_cons.2 ⟨ty36_ok,List.forall_mem_cons.2 ⟨ty37_ok,List.forall_mem_cons.2 ⟨ty38_ok,List.forall_mem_cons.2 ⟨ty39_ok,List.forall_mem_cons.2 ⟨ty40_ok,List.forall_mem_cons.2 ⟨ty42_ok,List.forall_mem_cons.2 ⟨ty43_ok,List.forall_mem_cons.2 ⟨ty44_ok,List.forall_mem_cons.2 ⟨ty45_ok,List.forall_mem_cons.2 ⟨ty46_ok,List.forall_mem_cons.2 ⟨ty47_ok,List.forall_mem_cons.2 ⟨ty48_ok,List.forall_mem_cons.2 ⟨ty49_ok,List.forall_mem_cons.2 ⟨ty51_ok,List.forall_mem_cons.2 ⟨ty52_ok,List.forall_mem_cons.2 ⟨ty53_ok,List.forall_mem_cons.2 ⟨ty54_ok,List.forall_mem_cons.2 ⟨ty55_ok,List.forall_mem_cons.2 ⟨ty57_ok,List.forall_mem_cons.2 ⟨ty58_ok,List.forall_mem_cons.2 ⟨ty59_ok,List.forall_mem_cons.2 ⟨ty60_ok,List.forall_mem_cons.2 ⟨ty62_ok,List.forall_mem_cons.2 ⟨ty63_ok,List.forall_mem_cons.2 ⟨ty64_ok,List.forall_mem_cons.2 ⟨ty66_ok,List.forall_mem_cons.2 ⟨ty67_ok,List.forall_mem_cons.2 ⟨ty68_ok,List.forall_mem_cons.2 ⟨ty69_ok,List.forall_mem_cons.2 ⟨ty70_ok,List.forall_mem_cons.2 ⟨ty71_ok,List.forall_mem_cons.2 ⟨ty72_ok,List.forall_mem_cons.2 ⟨ty73_ok,List.forall_mem_cons.2 ⟨ty75_ok,List.forall_mem_cons.2 ⟨ty76_ok,List.forall_mem_cons.2 ⟨ty77_ok,List.forall_mem_cons.2 ⟨ty79_ok,List.forall_mem_cons.2 ⟨ty81_ok,List.forall_mem_cons.2 ⟨ty82_ok,List.forall_mem_cons.2 ⟨ty83_ok,List.forall_mem_cons.2 ⟨ty84_ok,List.forall_mem_cons.2 ⟨ty85_ok,List.forall_mem_cons.2 ⟨ty86_ok,List.forall_mem_cons.2 ⟨ty87_ok,List.forall_mem_cons.2 ⟨ty88_ok,List.forall_mem_cons.2 ⟨ty89_ok,List.forall_mem_cons.2 ⟨ty90_ok,List.forall_mem_cons.2 ⟨ty91_ok,List.forall_mem_cons.2 ⟨ty93_ok,List.forall_mem_cons.2 ⟨ty94_ok,List.forall_mem_cons.2 ⟨ty95_ok,List.forall_mem_cons.2 ⟨ty96_ok,List.forall_mem_cons.2 ⟨ty97_ok,List.forall_mem_cons.2 ⟨ty98_ok,List.forall_mem_cons.2 ⟨ty99_ok,List.forall_mem_cons.2 ⟨ty100_ok,List.forall_mem_cons.2 ⟨ty101_ok,List.forall_mem_cons.2 ⟨ty102_ok,List.forall_mem_cons.2 ⟨ty103_ok,List.forall_mem_cons.2 ⟨ty104_ok,List.forall_mem_cons.2 ⟨ty105_ok,List.forall_mem_cons.2 ⟨ty106_ok,List.forall_mem_cons.2 ⟨ty108_ok,List.forall_mem_cons.2 ⟨ty109_ok,List.forall_mem_cons.2 ⟨ty110_ok,List.forall_mem_cons.2 ⟨ty111_ok,List.forall_mem_cons.2 ⟨ty112_ok,List.forall_mem_cons.2 ⟨ty114_ok,List.forall_mem_cons.2 ⟨ty115_ok,List.forall_mem_cons.2 ⟨ty116_ok,List.forall_mem_cons.2 ⟨ty117_ok,List.forall_mem_cons.2 ⟨ty118_ok,List.forall_mem_cons.2 ⟨ty119_ok,List.forall_mem_cons.2 ⟨ty120_ok,List.forall_mem_cons.2 ⟨ty121_ok,List.forall_mem_cons.2 ⟨ty122_ok,List.forall_mem_cons.2 ⟨ty123_ok,List.forall_mem_cons.2 ⟨ty125_ok,List.forall_mem_cons.2 ⟨ty126_ok,List.forall_mem_cons.2 ⟨ty127_ok,List.forall_mem_cons.2 ⟨ty128_ok,List.forall_mem_cons.2 ⟨ty129_ok,List.forall_mem_cons.2 ⟨ty130_ok,List.forall_mem_cons.2 ⟨ty131_ok,List.forall_mem_cons.2 ⟨ty132_ok,List.forall_mem_cons.2 ⟨ty133_ok,List.forall_mem_cons.2 ⟨ty134_ok,List.forall_mem_cons.2 ⟨ty135_ok,List.forall_mem_cons.2 ⟨ty136_ok,List.forall_mem_cons.2 ⟨ty137_ok,List.forall_mem_cons.2 ⟨ty138_ok,List.forall_mem_cons.2 ⟨ty139_ok,List.forall_mem_cons.2 ⟨ty140_ok,List.forall_mem_cons.2 ⟨ty141_ok,List.forall_mem_cons.2 ⟨ty142_ok,List.forall_mem_cons.2 ⟨ty143_ok,List.forall_mem_cons.2 ⟨ty144_ok,List.forall_mem_cons.2 ⟨ty145_ok,List.forall_mem_cons.2 ⟨ty146_ok,List.forall_mem_cons.2 ⟨ty147_ok,List.forall_mem_cons.2 ⟨ty148_ok,List.forall_mem_cons.2 ⟨ty149_ok,List.forall_mem_cons.2 ⟨ty150_ok,List.forall_mem_cons.2 ⟨ty151_ok,List.forall_mem_cons.2 ⟨ty152_ok,List.forall_mem_cons.2 ⟨ty153_ok,List.forall_mem_cons.2 ⟨ty154_ok,List.forall_mem_cons.2 ⟨ty155_ok,List.forall_mem_cons.2 ⟨ty156_ok,List.forall_mem_cons.2 ⟨ty157_ok,List.forall_mem_cons.2 ⟨ty158_ok,List.forall_mem_cons.2 ⟨ty159_ok,List.forall_mem_cons.2 ⟨ty160_ok,List.forall_mem_cons.2 ⟨ty161_ok,List.forall_mem_cons.2 ⟨ty162_ok,List.forall_mem_cons.2 ⟨ty163_ok,List.forall_mem_cons.2 ⟨ty164_ok,List.forall_mem_cons.2 ⟨ty165_ok,List.forall_mem_cons.2 ⟨ty166_ok,List.forall_mem_cons.2 ⟨ty167_ok,List.forall_mem_cons.2 ⟨ty168_ok,List.forall_mem_cons.2 ⟨ty169_ok,List.forall_mem_cons.2 ⟨ty170_ok,List.forall_mem_cons.2 ⟨ty171_ok,List.forall_mem_cons.2 ⟨ty172_ok,List.forall_mem_cons.2 ⟨ty173_ok,List.forall_mem_cons.2 ⟨ty174_ok,List.forall_mem_cons.2 ⟨ty175_ok,List.forall_mem_cons.2 ⟨ty176_ok,List.forall_mem_cons.2 ⟨ty177_ok,List.forall_mem_cons.2 ⟨ty178_ok,List.forall_mem_cons.2 ⟨ty179_ok,List.forall_mem_cons.2 ⟨ty180_ok,List.forall_mem_cons.2 ⟨ty181_ok,List.forall_mem_cons.2 ⟨ty182_ok,List.forall_mem_cons.2 ⟨ty183_ok,List.forall_mem_cons.2 ⟨ty184_ok,List.forall_mem_cons.2 ⟨ty185_ok,List.forall_mem_cons.2 ⟨ty186_ok,List.forall_mem_cons.2 ⟨ty187_ok,List.forall_mem_cons.2 ⟨ty188_ok,List.forall_mem_cons.2 ⟨ty189_ok,List.forall_mem_cons.2 ⟨ty190_ok,List.forall_mem_cons.2 ⟨ty191_ok,List.forall_mem_cons.2 ⟨ty192_ok,List.forall_mem_cons.2 ⟨ty193_ok,List.forall_mem_cons.2 ⟨ty195_ok,List.forall_mem_cons.2 ⟨ty196_ok,List.forall_mem_cons.2 ⟨ty197_ok,List.forall_mem_cons.2 ⟨ty198_ok,List.forall_mem_cons.2 ⟨ty199_ok,List.forall_mem_cons.2 ⟨ty200_ok,List.forall_mem_cons.2 ⟨ty201_ok,List.forall_mem_cons.2 ⟨ty202_ok,List.forall_mem_cons.2 ⟨ty203_ok,List.forall_mem_cons.2 ⟨ty204_ok,List.forall_mem_cons.2 ⟨ty205_ok,List.forall_mem_cons.2 ⟨ty206_ok,List.forall_mem_cons.2 ⟨ty207_ok,List.forall_mem_cons.2 ⟨ty208_ok,List.forall_mem_cons.2 ⟨ty209_ok,List.forall_mem_cons.2 ⟨ty211_ok,List.forall_mem_cons.2 ⟨ty212_ok,List.forall_mem_cons.2 ⟨ty213_ok,List.forall_mem_cons.2 ⟨ty214_ok,List.forall_mem_cons.2 ⟨ty215_ok,List.forall_mem_cons.2 ⟨ty216_ok,List.forall_mem_cons.2 ⟨ty217_ok,List.forall_mem_cons.2 ⟨ty218_ok,List.forall_mem_cons.2 ⟨ty219_ok,List.forall_mem_cons.2 ⟨ty220_ok,List.forall_mem_cons.2 ⟨ty222_ok,List.forall_mem_cons.2 ⟨ty223_ok,List.forall_mem_cons.2 ⟨ty224_ok,List.forall_mem_cons.2 ⟨ty225_ok,List.forall_mem_cons.2 ⟨ty226_ok,List.forall_mem_cons.2 ⟨ty227_ok,List.forall_mem_cons.2 ⟨ty228_ok,List.forall_mem_cons.2 ⟨ty229_ok,List.forall_mem_cons.2 ⟨ty230_ok,List.forall_mem_cons.2 ⟨ty231_ok,List.forall_mem_cons.2 ⟨ty232_ok,List.forall_mem_cons.2 ⟨ty233_ok,List.forall_mem_cons.2 ⟨ty234_ok,List.forall_mem_cons.2 ⟨ty235_ok,List.forall_mem_cons.2 ⟨ty236_ok,List.forall_mem_cons.2 ⟨ty237_ok,List.forall_mem_cons.2 ⟨ty238_ok,List.forall_mem_cons.2 ⟨ty239_ok,List.forall_mem_cons.2 ⟨ty240_ok,List.forall_mem_cons.2 ⟨ty241_ok,List.forall_mem_cons.2 ⟨ty242_ok,List.forall_mem_cons.2 ⟨ty244_ok,List.forall_mem_cons.2 ⟨ty245_ok,List.forall_mem_cons.2 ⟨ty246_ok,List.forall_mem_cons.2 ⟨ty247_ok,List.forall_mem_cons.2 ⟨ty248_ok,List.forall_mem_cons.2 ⟨ty249_ok,List.forall_mem_cons.2 ⟨ty250_ok,List.forall_mem_cons.2 ⟨ty251_ok,List.forall_mem_cons.2 ⟨ty252_ok,List.forall_mem_cons.2 ⟨ty253_ok,List.forall_mem_cons.2 ⟨ty254_ok,List.forall_mem_cons.2 ⟨ty255_ok,List.forall_mem_cons.2 ⟨ty256_ok,List.forall_mem_cons.2 ⟨ty257_ok,List.forall_mem_cons.2 ⟨ty258_ok,List.forall_mem_cons.2 ⟨ty259_ok,List.forall_mem_cons.2 ⟨ty260_ok,List.forall_mem_cons.2 ⟨ty261_ok,List.forall_mem_cons.2 ⟨ty262_ok,List.forall_mem_cons.2 ⟨ty263_ok,List.forall_mem_cons.2 ⟨ty264_ok,List.forall_mem_cons.2 ⟨ty265_ok,List.forall_mem_cons.2 ⟨ty266_ok,List.forall_mem_cons.2 ⟨ty267_ok,List.forall_mem_cons.2 ⟨ty268_ok,List.forall_mem_cons.2 ⟨ty269_ok,List.forall_mem_cons.2 ⟨ty270_ok,List.forall_mem_cons.2 ⟨ty271_ok,List.forall_mem_cons.2 ⟨ty272_ok,List.forall_mem_cons.2 ⟨ty273_ok,List.forall_mem_cons.2 ⟨ty274_ok,List.forall_mem_cons.2 ⟨ty275_ok,List.forall_mem_cons.2 ⟨ty276_ok,List.forall_mem_cons.2 ⟨ty277_ok,List.forall_mem_cons.2 ⟨ty278_ok,List.forall_mem_cons.2 ⟨ty279_ok,List.forall_mem_cons.2 ⟨ty280_ok,List.forall_mem_cons.2 ⟨ty281_ok,List.forall_mem_cons.2 ⟨ty282_ok,List.forall_mem_cons.2 ⟨ty283_ok,List.forall_mem_cons.2 ⟨ty284_ok,List.forall_mem_cons.2 ⟨ty285_ok,List.forall_mem_cons.2 ⟨ty286_ok,List.forall_mem_cons.2 ⟨ty287_ok,List.forall_mem_cons.2 ⟨ty288_ok,List.forall_mem_cons.2 ⟨ty289_ok,List.forall_mem_cons.2 ⟨ty290_ok,List.forall_mem_cons.2 ⟨ty291_ok,List.forall_mem_cons.2 ⟨ty292_ok,List.forall_mem_cons.2 ⟨ty293_ok,List.forall_mem_cons.2 ⟨ty294_ok,List.forall_mem_cons.2 ⟨ty295_ok,List.forall_mem_cons.2 ⟨ty296_ok,List.forall_mem_cons.2 ⟨ty297_ok,List.forall_mem_cons.2 ⟨ty301_ok,List.forall_mem_cons.2 ⟨ty302_ok,List.forall_mem_cons.2 ⟨ty303_ok,List.forall_mem_cons.2 ⟨ty304_ok,List.forall_mem_cons.2 ⟨ty305_ok,List.forall_mem_cons.2 ⟨ty306_ok,List.forall_mem_cons.2 ⟨ty307_ok,List.forall_mem_cons.2 ⟨ty308_ok,(fun _ h => nomatch h)⟩⟩⟩⟩⟩⟩⟩⟩⟩⟩⟩⟩⟩⟩⟩⟩⟩⟩⟩⟩⟩⟩⟩⟩⟩⟩⟩⟩⟩⟩⟩⟩⟩⟩⟩⟩⟩⟩⟩⟩⟩⟩⟩⟩⟩⟩⟩⟩⟩⟩⟩⟩⟩⟩⟩⟩⟩⟩⟩⟩⟩⟩⟩⟩⟩⟩⟩⟩⟩⟩⟩⟩⟩⟩⟩⟩⟩⟩⟩⟩⟩⟩⟩⟩⟩⟩⟩⟩⟩⟩⟩⟩⟩⟩⟩⟩⟩⟩⟩⟩⟩⟩⟩⟩⟩⟩⟩⟩⟩⟩⟩⟩⟩⟩⟩⟩⟩⟩⟩⟩⟩⟩⟩⟩⟩⟩⟩⟩⟩⟩⟩⟩⟩⟩⟩⟩⟩⟩⟩⟩⟩⟩⟩⟩⟩⟩⟩⟩⟩⟩⟩⟩⟩⟩⟩⟩⟩⟩⟩⟩⟩⟩⟩⟩⟩⟩⟩⟩⟩⟩⟩⟩⟩⟩⟩⟩⟩⟩⟩⟩⟩⟩⟩⟩⟩⟩⟩⟩⟩⟩⟩⟩⟩⟩⟩⟩⟩⟩⟩⟩⟩⟩⟩⟩⟩⟩⟩⟩⟩⟩⟩⟩⟩⟩⟩⟩⟩⟩⟩⟩⟩⟩⟩⟩⟩⟩⟩⟩⟩⟩⟩⟩⟩⟩⟩⟩⟩⟩⟩⟩⟩⟩⟩⟩⟩⟩⟩⟩⟩⟩⟩⟩⟩⟩⟩⟩⟩⟩⟩⟩⟩⟩⟩⟩⟩⟩⟩⟩⟩⟩⟩⟩⟩⟩⟩⟩⟩⟩⟩⟩⟩⟩⟩⟩⟩⟩⟩⟩
theorem C_ok:C.Ok where
 mixed:=by kernel_rfl
 types:=tab_ok
 funcs:=fun f h => by
  have h1:3 <= f ∧ f < 302:=by
   unfold Cfg.can at h
   simp only [Bool.and_eq_true] at h
   exact ⟨Nat.le_of_ble_eq_true h.1,Eq.mp Nat.blt_eq h.2.1⟩
  have h2:=List.all_eq_true.1 funs_ok f (List.mem_range'_1.2 ⟨h1.1,by omega⟩)
  rw [h,Bool.not_true,Bool.false_or] at h2
  exact h2
def plans14:List (Nat × PlanT):=[(8,.op 0 3 (.op 1 3 (.op 2 0 (.op 3 3 (.op 4 3 (.op 5 3 (.op 6 0 (.op 7 2 (.op 8 2 (.op 9 2 (.op 10 3 (.done))))))))))))]
def plans19:List (Nat × PlanT):=[(18,.op 0 0 (.op 1 3 (.op 2 3 (.op 3 3 (.op 4 0 (.op 5 3 (.op 6 3 (.op 7 3 (.op 8 0 (.op 9 2 (.op 10 3 (.done)))))))))))),(20,.op 0 3 (.op 1 0 (.op 2 3 (.op 3 3 (.op 4 3 (.op 5 3 (.op 6 0 (.op 7 3 (.op 8 3 (.op 9 3 (.op 10 0 (.op 11 3 (.op 12 1 (.op 13 2 (.op 14 3 (.op 15 2 (.done)))))))))))))))))]
def plans23:List (Nat × PlanT):=[(4,.op 0 0 (.op 1 0 (.op 3 0 (.op 4 0 (.op 2 1 (.op 5 2 (.op 6 2 (.op 7 3 (.done)))))))))]
def plans26:List (Nat × PlanT):=[(9,.op 0 0 (.op 1 3 (.op 2 3 (.op 3 3 (.op 4 0 (.op 5 3 (.op 6 3 (.op 7 3 (.op 8 0 (.op 9 2 (.op 10 3 (.done)))))))))))),(12,.op 0 3 (.op 1 3 (.op 2 3 (.op 3 3 (.op 4 3 (.op 5 0 (.op 6 3 (.op 7 3 (.op 8 3 (.op 9 0 (.op 10 3 (.op 11 3 (.op 12 0 (.op 13 3 (.op 14 3 (.op 15 3 (.op 16 0 (.op 17 3 (.op 18 2 (.op 19 3 (.op 20 3 (.done)))))))))))))))))))))),(19,.op 0 0 (.op 1 3 (.op 2 3 (.op 3 3 (.op 4 0 (.op 5 3 (.op 6 3 (.op 7 3 (.op 8 0 (.op 9 2 (.op 10 3 (.done)))))))))))),(20,.op 0 3 (.op 1 3 (.op 2 3 (.op 3 3 (.op 4 3 (.op 5 3 (.op 6 0 (.op 7 3 (.op 8 3 (.op 9 3 (.op 10 0 (.op 11 3 (.op 12 3 (.op 13 0 (.op 14 3 (.op 15 3 (.op 16 3 (.op 17 0 (.op 18 3 (.op 19 2 (.op 20 2 (.op 21 3 (.done)))))))))))))))))))))))]
def plans27:List (Nat × PlanT):=[(6,.op 0 3 (.op 1 3 (.op 2 3 (.op 3 0 (.op 4 3 (.op 5 3 (.op 6 3 (.op 7 0 (.op 8 3 (.done))))))))))]
def plans28:List (Nat × PlanT):=[(26,.op 0 3 (.op 1 3 (.op 2 3 (.op 3 0 (.op 4 3 (.op 5 3 (.op 6 0 (.op 7 3 (.op 8 3 (.op 9 3 (.op 10 0 (.op 13 3 (.op 11 1 (.op 12 0 (.done)))))))))))))))]
def plans35:List (Nat × PlanT):=[(7,.op 0 0 (.op 1 3 (.op 2 3 (.op 3 0 (.op 4 0 (.op 5 3 (.op 6 3 (.op 7 0 (.op 8 3 (.done))))))))))]
def plans37:List (Nat × PlanT):=[(6,.op 0 3 (.op 1 3 (.op 2 3 (.op 3 0 (.op 4 3 (.op 5 3 (.op 6 3 (.op 7 0 (.op 8 3 (.done))))))))))]
def plans38:List (Nat × PlanT):=[(7,.op 0 3 (.op 1 3 (.op 2 3 (.op 3 3 (.op 4 3 (.op 5 0 (.op 6 3 (.op 7 3 (.op 8 3 (.op 9 0 (.op 10 3 (.op 11 3 (.op 12 3 (.op 13 3 (.op 14 0 (.op 15 3 (.done)))))))))))))))))]
def plans45:List (Nat × PlanT):=[(4,.op 0 3 (.op 1 3 (.op 2 0 (.op 3 3 (.op 4 0 (.op 5 3 (.op 6 3 (.op 7 3 (.op 8 0 (.op 9 3 (.op 10 0 (.op 11 3 (.op 12 0 (.fork (.op 13 1 (.op 14 3 (.op 15 1 (.op 16 2 (.done))))) (.op 15 1 (.op 13 1 (.op 14 3 (.op 16 2 (.done)))))))))))))))))))]
def plans47:List (Nat × PlanT):=[(8,.op 0 3 (.op 1 0 (.op 2 0 (.op 3 3 (.op 4 3 (.op 5 3 (.op 6 1 (.op 7 2 (.op 8 3 (.op 9 2 (.done)))))))))))]
def plans48:List (Nat × PlanT):=[(4,.op 0 3 (.op 1 3 (.op 2 3 (.op 3 3 (.op 4 3 (.op 5 3 (.op 6 0 (.op 7 2 (.op 8 3 (.done))))))))))]
def plans49:List (Nat × PlanT):=[(13,.op 0 3 (.op 1 0 (.op 2 3 (.op 3 3 (.op 4 3 (.op 5 0 (.op 6 3 (.op 7 0 (.op 8 3 (.done))))))))))]
def plans51:List (Nat × PlanT):=[(8,.op 0 3 (.op 1 3 (.op 2 3 (.op 3 0 (.op 4 3 (.op 5 0 (.op 6 2 (.done)))))))),(10,.op 0 3 (.op 1 3 (.op 2 3 (.op 3 0 (.op 4 3 (.op 5 0 (.op 6 2 (.done))))))))]
def plans53:List (Nat × PlanT):=[(10,.op 0 3 (.op 1 3 (.op 2 3 (.op 3 3 (.op 4 0 (.op 5 3 (.op 6 3 (.op 7 3 (.op 8 0 (.op 9 0 (.op 10 2 (.op 11 3 (.op 12 3 (.done))))))))))))))]
def plans54:List (Nat × PlanT):=[(5,.op 0 3 (.op 1 3 (.op 2 3 (.op 3 3 (.op 4 0 (.op 5 0 (.op 6 2 (.op 7 3 (.done))))))))),(8,.op 0 3 (.op 1 3 (.op 2 3 (.op 3 3 (.op 4 3 (.op 5 3 (.op 6 3 (.op 7 3 (.op 8 3 (.op 9 0 (.op 10 0 (.op 11 1 (.op 12 3 (.op 13 3 (.op 14 3 (.op 15 3 (.done)))))))))))))))))]
def plans55:List (Nat × PlanT):=[(1,.op 0 3 (.op 1 0 (.op 2 3 (.op 3 0 (.op 5 3 (.op 6 0 (.op 7 3 (.op 8 0 (.op 4 1 (.op 9 2 (.op 10 2 (.op 11 2 (.op 12 3 (.done))))))))))))))]
def plans56:List (Nat × PlanT):=[(4,.op 0 0 (.op 2 0 (.op 1 1 (.op 3 2 (.op 4 0 (.op 5 3 (.done)))))))]
def plans57:List (Nat × PlanT):=[(8,.op 0 3 (.op 1 0 (.op 2 0 (.op 3 0 (.op 5 3 (.op 6 0 (.op 7 0 (.op 8 0 (.op 4 1 (.op 9 2 (.op 10 3 (.op 11 3 (.done)))))))))))))]
def plans63:List (Nat × PlanT):=[(7,.op 0 3 (.op 1 3 (.op 2 0 (.op 3 3 (.op 4 0 (.op 5 3 (.op 6 3 (.op 7 3 (.op 8 3 (.op 9 2 (.done))))))))))),(12,.op 0 3 (.op 1 3 (.op 2 3 (.op 3 3 (.op 5 3 (.op 6 3 (.op 4 1 (.op 7 3 (.op 8 2 (.done))))))))))]
def plans66:List (Nat × PlanT):=[(8,.op 0 3 (.op 1 0 (.op 2 0 (.op 4 3 (.op 5 0 (.op 6 0 (.op 3 1 (.op 7 2 (.op 8 3 (.op 9 3 (.done))))))))))),(10,.op 0 3 (.op 1 0 (.op 2 0 (.op 4 3 (.op 5 0 (.op 6 0 (.op 3 1 (.op 7 2 (.op 8 3 (.op 9 3 (.done))))))))))),(12,.op 0 3 (.op 1 0 (.op 2 0 (.op 4 3 (.op 5 0 (.op 6 0 (.op 3 1 (.op 7 2 (.op 8 3 (.op 9 3 (.done))))))))))),(14,.op 0 3 (.op 1 0 (.op 2 0 (.op 4 3 (.op 5 0 (.op 3 1 (.op 6 3 (.op 7 3 (.done))))))))),(16,.op 0 3 (.op 1 0 (.op 2 0 (.op 4 3 (.op 5 0 (.op 3 1 (.op 6 3 (.op 7 3 (.done))))))))),(18,.op 0 3 (.op 1 0 (.op 2 3 (.op 3 0 (.op 4 0 (.op 5 0 (.op 6 2 (.op 7 3 (.op 8 3 (.done)))))))))),(22,.op 0 0 (.op 1 0 (.op 2 0 (.op 4 3 (.op 5 0 (.op 6 3 (.op 3 1 (.op 7 3 (.done)))))))))]
def plans71:List (Nat × PlanT):=[(1,.op 0 0 (.op 1 3 (.op 2 3 (.op 4 0 (.op 5 3 (.op 6 3 (.op 3 1 (.op 7 2 (.op 8 3 (.op 9 3 (.done)))))))))))]
def plans72:List (Nat × PlanT):=[(1,.op 0 3 (.op 1 3 (.op 2 3 (.op 3 3 (.op 4 3 (.op 5 3 (.op 6 3 (.op 7 0 (.op 8 3 (.op 9 3 (.op 10 3 (.op 11 3 (.op 12 3 (.op 13 3 (.op 14 3 (.op 15 0 (.op 16 3 (.op 17 3 (.done)))))))))))))))))))]
def plans83:List (Nat × PlanT):=[(6,.op 0 3 (.op 1 3 (.op 2 3 (.op 3 0 (.op 4 3 (.op 5 3 (.op 6 3 (.op 7 3 (.op 8 0 (.op 9 3 (.done))))))))))),(11,.op 0 3 (.op 1 3 (.op 2 3 (.op 3 0 (.op 4 3 (.op 5 3 (.op 6 3 (.op 7 3 (.op 8 0 (.op 9 3 (.done)))))))))))]
def plans85:List (Nat × PlanT):=[(11,.op 0 3 (.op 1 3 (.op 2 3 (.op 3 3 (.op 4 0 (.op 5 3 (.op 6 3 (.op 7 3 (.op 8 3 (.op 9 0 (.op 10 3 (.done))))))))))))]
def plans93:List (Nat × PlanT):=[(12,.op 0 3 (.op 1 3 (.op 2 3 (.op 3 3 (.op 4 3 (.op 5 0 (.op 6 3 (.op 7 3 (.op 8 3 (.op 9 0 (.op 10 3 (.op 11 3 (.op 12 3 (.done)))))))))))))),(18,.op 0 3 (.op 1 3 (.op 2 3 (.op 3 0 (.op 4 3 (.op 5 3 (.op 6 3 (.op 7 3 (.op 8 0 (.op 9 3 (.op 10 2 (.op 11 3 (.done)))))))))))))]
def plans102:List (Nat × PlanT):=[(1,.op 0 0 (.op 1 3 (.op 2 3 (.op 3 3 (.op 4 0 (.op 5 3 (.op 6 3 (.op 7 3 (.op 8 0 (.fork (.op 9 1 (.op 10 3 (.op 11 3 (.op 12 3 (.op 13 1 (.op 14 2 (.op 15 3 (.done)))))))) (.op 13 1 (.op 9 1 (.op 10 3 (.op 11 3 (.op 12 3 (.op 14 2 (.op 15 3 (.done)))))))))))))))))),(4,.op 0 3 (.op 1 3 (.op 2 3 (.op 3 3 (.op 4 0 (.op 5 3 (.op 6 0 (.op 7 3 (.op 8 0 (.op 9 3 (.op 10 3 (.op 11 0 (.op 12 3 (.op 13 2 (.op 14 2 (.op 15 3 (.done))))))))))))))))),(6,.op 0 3 (.op 1 3 (.op 2 3 (.op 3 3 (.op 4 0 (.op 5 3 (.op 6 0 (.op 7 3 (.op 8 0 (.op 9 3 (.op 10 3 (.op 11 0 (.op 12 3 (.op 13 2 (.op 14 2 (.op 15 3 (.done)))))))))))))))))]
def plans104:List (Nat × PlanT):=[(6,.op 0 3 (.op 1 0 (.op 2 3 (.op 3 3 (.op 4 3 (.op 5 0 (.op 6 3 (.op 7 3 (.op 8 0 (.op 9 3 (.op 10 3 (.op 11 3 (.op 12 0 (.op 13 3 (.op 14 3 (.done))))))))))))))))]
def plans110:List (Nat × PlanT):=[(6,.op 0 3 (.op 1 3 (.op 2 3 (.op 3 0 (.op 4 3 (.op 5 3 (.op 6 3 (.op 7 0 (.op 8 3 (.op 9 3 (.op 10 3 (.op 11 0 (.op 12 3 (.op 13 3 (.op 14 3 (.done)))))))))))))))),(8,.op 0 3 (.op 1 3 (.op 2 3 (.op 3 0 (.op 4 3 (.op 5 0 (.op 6 0 (.op 7 3 (.done))))))))),(17,.op 0 3 (.op 1 0 (.op 2 3 (.op 3 3 (.op 4 3 (.op 5 3 (.op 6 3 (.op 7 0 (.op 8 3 (.op 9 0 (.op 10 0 (.op 11 3 (.op 12 3 (.done)))))))))))))),(19,.op 0 3 (.op 1 0 (.op 2 3 (.op 3 3 (.op 4 3 (.op 5 3 (.op 6 3 (.op 7 0 (.op 8 3 (.op 9 0 (.op 10 0 (.op 11 3 (.op 12 3 (.op 13 3 (.op 14 3 (.op 15 3 (.op 16 3 (.op 17 0 (.op 18 0 (.op 19 3 (.op 20 3 (.done))))))))))))))))))))))]
def plans115:List (Nat × PlanT):=[(1,.op 0 3 (.op 1 0 (.op 2 3 (.op 3 3 (.op 4 3 (.op 5 0 (.op 6 3 (.op 7 0 (.op 8 3 (.op 9 3 (.op 10 3 (.op 11 0 (.op 12 3 (.op 13 3 (.done)))))))))))))))]
def plans116:List (Nat × PlanT):=[(1,.op 0 3 (.op 1 0 (.op 2 3 (.op 3 0 (.op 4 0 (.op 5 3 (.op 6 0 (.op 7 3 (.op 8 0 (.op 9 0 (.op 10 3 (.op 11 0 (.op 12 3 (.op 13 0 (.op 14 3 (.op 15 0 (.op 16 3 (.op 17 0 (.op 18 3 (.op 19 0 (.op 20 3 (.op 21 3 (.op 22 0 (.op 23 3 (.op 24 3 (.op 25 2 (.done)))))))))))))))))))))))))))]
def plans117:List (Nat × PlanT):=[(4,.op 0 0 (.op 1 3 (.op 2 3 (.op 3 3 (.op 4 3 (.op 5 0 (.op 6 3 (.op 7 3 (.op 8 3 (.op 9 0 (.fork (.op 10 1 (.op 11 3 (.op 12 3 (.op 13 3 (.op 14 1 (.op 15 2 (.op 16 3 (.done)))))))) (.op 14 1 (.op 10 1 (.op 11 3 (.op 12 3 (.op 13 3 (.op 15 2 (.op 16 3 (.done)))))))))))))))))))]
def plans119:List (Nat × PlanT):=[(5,.op 0 3 (.op 1 0 (.op 2 3 (.op 3 3 (.op 4 3 (.op 5 0 (.op 6 3 (.op 7 0 (.op 8 3 (.op 9 3 (.op 10 3 (.op 11 0 (.op 12 3 (.op 13 3 (.op 14 2 (.done))))))))))))))))]
def plans124:List (Nat × PlanT):=[(2,.op 0 3 (.op 1 3 (.op 2 0 (.op 3 0 (.op 4 2 (.op 5 3 (.done)))))))]
def plans125:List (Nat × PlanT):=[(5,.op 0 0 (.op 1 0 (.op 2 1 (.op 3 1 (.op 4 2 (.op 5 2 (.done)))))))]
def plans148:List (Nat × PlanT):=[(12,.op 0 3 (.op 1 3 (.op 2 3 (.op 3 3 (.op 4 0 (.op 5 3 (.op 6 3 (.op 7 3 (.op 8 3 (.op 9 3 (.op 10 3 (.op 11 0 (.op 12 3 (.op 13 3 (.op 14 3 (.op 15 3 (.op 16 3 (.op 17 3 (.op 18 3 (.op 19 3 (.op 20 0 (.op 21 3 (.op 22 3 (.op 23 3 (.op 24 3 (.op 25 3 (.op 26 3 (.op 27 3 (.op 28 3 (.op 29 0 (.op 30 3 (.op 31 3 (.op 32 3 (.op 33 0 (.op 34 3 (.op 35 3 (.done)))))))))))))))))))))))))))))))))))))]
def plans166:List (Nat × PlanT):=[(5,.op 0 3 (.op 1 0 (.op 2 3 (.op 3 0 (.op 5 3 (.op 6 0 (.op 7 3 (.op 8 0 (.op 4 1 (.op 9 2 (.op 10 2 (.op 11 2 (.op 12 3 (.done))))))))))))))]
def plans169:List (Nat × PlanT):=[(13,.op 0 3 (.op 1 0 (.op 2 3 (.op 3 4 (.op 4 3 (.op 5 4 (.op 6 3 (.op 7 5 (.op 8 3 (.op 9 5 (.op 10 3 (.op 11 2 (.done))))))))))))),(17,.op 0 3 (.op 1 0 (.op 2 3 (.op 3 4 (.op 4 3 (.op 5 4 (.op 6 3 (.op 7 5 (.op 8 3 (.op 9 5 (.op 10 3 (.op 11 2 (.done))))))))))))),(20,.op 0 3 (.op 1 0 (.op 2 3 (.op 3 4 (.op 4 3 (.op 5 4 (.op 6 3 (.op 7 5 (.op 8 3 (.op 9 5 (.op 10 3 (.op 11 2 (.done))))))))))))),(23,.op 0 3 (.op 1 0 (.op 2 3 (.op 3 4 (.op 4 3 (.op 5 5 (.op 6 3 (.op 7 2 (.done))))))))),(27,.op 0 3 (.op 1 0 (.op 2 3 (.op 3 4 (.op 4 3 (.op 5 5 (.op 6 3 (.op 7 2 (.done))))))))),(32,.op 0 3 (.op 1 0 (.op 2 3 (.op 3 4 (.op 4 3 (.op 5 4 (.op 6 3 (.op 7 5 (.op 8 3 (.op 9 5 (.op 10 3 (.op 11 2 (.done)))))))))))))]
def plans172:List (Nat × PlanT):=[(5,.op 0 3 (.op 1 3 (.op 2 3 (.op 3 3 (.op 4 3 (.op 5 3 (.op 6 3 (.op 7 0 (.op 8 2 (.op 9 3 (.done)))))))))))]
def plans199:List (Nat × PlanT):=[(6,.op 0 0 (.op 1 0 (.op 2 3 (.op 3 3 (.done)))))]
def plans207:List (Nat × PlanT):=[(3,.op 0 3 (.op 1 3 (.op 2 3 (.op 3 3 (.op 4 3 (.op 5 3 (.op 6 3 (.op 7 0 (.op 8 3 (.op 9 3 (.op 10 3 (.op 11 0 (.op 12 3 (.op 13 2 (.op 14 3 (.op 15 2 (.done)))))))))))))))))]
def plans220:List (Nat × PlanT):=[(10,.op 0 3 (.op 1 3 (.op 2 3 (.op 3 3 (.op 4 3 (.op 5 3 (.op 6 0 (.op 7 3 (.op 8 3 (.op 9 3 (.op 10 3 (.op 11 3 (.op 12 3 (.op 13 0 (.op 14 3 (.op 15 3 (.op 16 3 (.op 17 3 (.op 18 0 (.op 19 3 (.op 20 3 (.op 21 3 (.op 22 3 (.done))))))))))))))))))))))))]
def plans246:List (Nat × PlanT):=[(22,.op 0 3 (.op 1 0 (.op 2 3 (.op 3 3 (.op 4 0 (.op 5 0 (.op 6 0 (.op 7 2 (.op 8 3 (.done))))))))))]
def plans250:List (Nat × PlanT):=[(4,.op 0 3 (.op 1 3 (.op 2 3 (.op 3 3 (.op 4 3 (.op 5 3 (.op 6 3 (.op 7 3 (.op 8 0 (.op 9 3 (.op 10 3 (.op 11 3 (.op 12 3 (.op 13 0 (.op 14 2 (.op 15 3 (.op 16 3 (.done)))))))))))))))))),(6,.op 0 3 (.op 1 3 (.op 2 3 (.op 3 3 (.op 4 3 (.op 5 3 (.op 6 3 (.op 7 3 (.op 8 3 (.op 9 0 (.op 10 3 (.op 11 3 (.op 12 3 (.op 13 0 (.op 14 3 (.op 15 2 (.op 16 3 (.op 17 2 (.done)))))))))))))))))))]
def plans251:List (Nat × PlanT):=[(5,.op 0 3 (.op 1 3 (.op 2 3 (.op 3 3 (.op 4 0 (.op 5 3 (.op 6 3 (.op 7 3 (.op 8 0 (.op 9 2 (.op 10 3 (.done)))))))))))),(11,.op 0 3 (.op 1 3 (.op 2 3 (.op 3 3 (.op 4 3 (.op 5 3 (.op 6 3 (.op 7 3 (.op 8 3 (.op 9 0 (.op 10 3 (.op 11 3 (.op 12 3 (.op 13 0 (.op 14 3 (.op 15 2 (.op 16 3 (.op 17 2 (.done))))))))))))))))))),(17,.op 0 3 (.op 1 3 (.op 2 3 (.op 3 3 (.op 4 0 (.op 5 3 (.op 6 3 (.op 7 3 (.op 8 0 (.op 9 2 (.op 10 3 (.op 11 3 (.done))))))))))))),(23,.op 0 3 (.op 1 3 (.op 2 3 (.op 3 3 (.op 4 3 (.op 5 3 (.op 6 3 (.op 7 3 (.op 8 3 (.op 9 0 (.op 10 3 (.op 11 3 (.op 12 3 (.op 13 0 (.op 14 3 (.op 15 2 (.op 16 3 (.op 17 2 (.done))))))))))))))))))),(35,.op 0 3 (.op 1 3 (.op 2 3 (.op 3 3 (.op 4 3 (.op 5 3 (.op 6 0 (.op 7 3 (.op 8 3 (.op 9 3 (.op 10 0 (.op 11 2 (.op 12 3 (.op 13 3 (.done)))))))))))))))]
def plans275:List (Nat × PlanT):=[(1,.op 0 3 (.op 1 3 (.op 2 3 (.op 3 3 (.op 4 3 (.op 5 3 (.op 6 3 (.op 7 3 (.op 8 3 (.op 9 3 (.op 10 3 (.op 11 3 (.op 12 3 (.op 13 3 (.op 14 3 (.op 15 2 (.op 16 3 (.done))))))))))))))))))]
def plans276:List (Nat × PlanT):=[(1,.op 0 3 (.op 1 3 (.op 2 3 (.op 3 3 (.op 4 3 (.op 5 3 (.op 6 3 (.op 7 3 (.op 8 3 (.op 9 3 (.op 10 3 (.op 11 3 (.op 12 2 (.op 13 3 (.done)))))))))))))))]
def plans284:List (Nat × PlanT):=[(1,.op 0 3 (.op 1 3 (.op 2 3 (.op 3 3 (.op 4 3 (.op 5 3 (.op 6 3 (.op 7 3 (.op 8 3 (.op 9 3 (.op 10 3 (.op 11 3 (.op 12 2 (.op 13 3 (.done)))))))))))))))]
def plans286:List (Nat × PlanT):=[(1,.op 0 3 (.op 1 3 (.op 2 3 (.op 3 3 (.op 4 3 (.op 5 3 (.op 6 3 (.op 7 3 (.op 8 3 (.op 9 2 (.op 10 3 (.done))))))))))))]
def plans289:List (Nat × PlanT):=[(1,.op 0 3 (.op 1 3 (.op 2 3 (.op 3 3 (.op 4 3 (.op 5 3 (.op 6 2 (.op 7 3 (.done)))))))))]
def plans300:List (Nat × PlanT):=[(3,.op 0 3 (.op 1 3 (.op 2 3 (.op 3 3 (.op 4 3 (.op 5 3 (.op 6 3 (.op 7 3 (.op 8 3 (.op 9 3 (.op 10 3 (.op 11 3 (.op 12 3 (.op 13 0 (.op 14 3 (.op 15 3 (.op 16 3 (.op 17 3 (.op 18 3 (.op 19 0 (.op 20 3 (.op 21 2 (.op 22 3 (.op 23 2 (.done)))))))))))))))))))))))))]
end Go.Proofs.YtdpdjcopkehdjaaGreat
namespace Go.Eng
open Go.RowKit
structure Mem (w0 w:World) (L:List (Nat × Obj)):Prop where
 ext:Ext w0 w
 own:∀ g o,(g,o) ∈ L -> w0.heap.size <= g ∧ w.heap[g]? = some o
 nodup:(L.map Prod.fst).Nodup
theorem Alloc.ext {w w':World} {g:Nat} {o:Obj} (h:Alloc w g o w'):Ext w w' :=
 ⟨h.os,h.tape,h.output,by rw [h.heap]; simp,fun k hk => by rw [h.heap,Array.getElem?_push,if_neg (Nat.ne_of_lt hk)]⟩
theorem Alloc.here {w w':World} {g:Nat} {o:Obj} (h:Alloc w g o w'):w'.heap[g]? = some o:=by rw [h.heap,h.new]; simp
theorem Alloc.size {w w':World} {g:Nat} {o:Obj} (h:Alloc w g o w'):w'.heap.size = w.heap.size + 1:=by rw [h.heap]; simp
theorem Mem.start (w:World):Mem w w []:=⟨Ext.refl w,fun _ _ h => (by cases h),List.nodup_nil⟩
variable {w0 w w':World} {L:List (Nat × Obj)}
theorem Mem.lt (h:Mem w0 w L) {g:Nat} {o:Obj} (hg:(g,o) ∈ L):g < w.heap.size:=(Array.getElem?_eq_some_iff.1 (h.own g o hg).2).1
theorem Mem.alloc (h:Mem w0 w L) {g:Nat} {o:Obj} (a:Alloc w g o w'):Mem w0 w' ((g,o) :: L):=by
 refine ⟨h.ext.trans a.ext,fun g' o' hm => ?_,?_⟩
 ·rcases List.mem_cons.1 hm with e | hm
  ·cases e; exact ⟨by rw [a.new]; exact h.ext.size,a.here⟩
  ·exact ⟨(h.own _ _ hm).1,a.ext.heap (h.own _ _ hm).2⟩
 ·rw [List.map_cons,List.nodup_cons]
  refine ⟨fun hm => ?_,h.nodup⟩
  obtain ⟨⟨g',o'⟩,hm',e⟩:=List.mem_map.1 hm
  have:=h.lt hm'
  have e:g' = g:=e
  rw [e,a.new] at this; exact Nat.lt_irrefl _ this
theorem Mem.get (h:Mem w0 w L) (k:Nat) {g:Nat} {o:Obj} (hk:L[k]? = some (g,o)):w.heap[g]? = some o:=(h.own g o (List.mem_of_getElem? hk)).2
theorem Mem.new (h:Mem w0 w L) (k:Nat) {g:Nat} {o:Obj} (hk:L[k]? = some (g,o)):w0.heap.size <= g:=(h.own g o (List.mem_of_getElem? hk)).1
theorem Mem.put (h:Mem w0 w L) (k:Nat) {g:Nat} {o o':Obj} (hk:L[k]? = some (g,o)) (p:Put w g o' w'):Mem w0 w' (L.set k (g,o')):=by
 have hn:=h.new k hk
 have hmap:(L.set k (g,o')).map Prod.fst = L.map Prod.fst:=by
  rw [List.map_set]
  apply List.ext_getElem?
  intro i
  rw [List.getElem?_set]
  split
  ·rename_i hki
   subst hki
   have hlt:=(List.getElem?_eq_some_iff.1 hk).1
   simp [hlt]
   have:=List.getElem?_eq_some_iff.1 hk
   obtain ⟨_,e⟩:=this
   simp [e]
  ·rfl
 refine ⟨⟨p.os.trans h.ext.os,p.tape.trans h.ext.tape,p.output.trans h.ext.output,by rw [p.size]; exact h.ext.size,fun j hj => by rw [p.there j (by omega)]; exact h.ext.block j hj⟩,fun g1 o1 hm => ?_,by rw [hmap]; exact h.nodup⟩
 obtain ⟨i,hi⟩:=List.mem_iff_getElem?.1 hm
 rw [List.getElem?_set] at hi
 by_cases hki:k = i
 ·rw [if_pos hki] at hi
  split at hi
  ·cases hi; exact ⟨hn,p.here⟩
  ·cases hi
 ·rw [if_neg hki] at hi
  have hm1:=List.mem_of_getElem? hi
  have hne:g1 ≠ g:=by
   intro e
   subst e
   have h1:(L.map Prod.fst)[i]? = some g1:=by simp [hi]
   have h2:(L.map Prod.fst)[k]? = some g1:=by simp [hk]
   have hlt:i < (L.map Prod.fst).length:=(List.getElem?_eq_some_iff.1 h1).1
   exact hki ((List.getElem?_inj hlt h.nodup).1 (h1.trans h2.symm)).symm
  exact ⟨(h.own _ _ hm1).1,by rw [p.there g1 hne]; exact (h.own _ _ hm1).2⟩
theorem Mem.grow (h:Mem w0 w L) (e:Ext w w'):Mem w0 w' L:=⟨h.ext.trans e,fun g o hm => ⟨(h.own g o hm).1,e.heap (h.own g o hm).2⟩,h.nodup⟩
theorem Mem.sub (h:Mem w0 w L) {L':List (Nat × Obj)} (hs:L'.Sublist L):Mem w0 w L':=⟨h.ext,fun g o hm => h.own g o (hs.subset hm),(hs.map Prod.fst).nodup h.nodup⟩
theorem Mem.tail (h:Mem w0 w L):Mem w0 w L.tail:=h.sub (List.tail_sublist L)
theorem Mem.add (h:Mem w0 w L) {g:Nat} {o:Obj} (ho:w.heap[g]? = some o) (hn:w0.heap.size <= g) (hd:∀ p ∈ L,p.1 ≠ g):Mem w0 w ((g,o) :: L):=by
 refine ⟨h.ext,fun g' o' hm => ?_,?_⟩
 ·rcases List.mem_cons.1 hm with e | hm
  ·cases e; exact ⟨hn,ho⟩
  ·exact h.own _ _ hm
 ·rw [List.map_cons,List.nodup_cons]
  refine ⟨fun hm => ?_,h.nodup⟩
  obtain ⟨p,hp,e⟩:=List.mem_map.1 hm
  exact hd p hp e
theorem Mem.cell (h:Mem w0 w L) (k:Nat) {g t i:Nat} {c:Array Value} {fr:Nat × Nat} {v:Value} (hk:L[k]? = some (g,.cells c t fr)) (hi:c[i]? = some v):w.cell? ⟨g,i,none⟩ = some v:=by
 have:=h.get k hk
 simp [World.cell?,this,hi]
theorem Mem.rd (h:Mem w0 w L) (k:Nat) {g t:Nat} {cs:List Value} {fr:Nat × Nat} (hk:L[k]? = some (g,.cells cs.toArray t fr)):Rd w g 0 cs:=Rd.of_block (h.get k hk)
theorem Mem.oldRd (h:Mem w0 w L) {b o:Nat} {cs:List Value} (hv:Rd w0 b o cs):Rd w b o cs:=hv.ext h.ext
theorem Mem.grown (h:Mem w0 w L) {row:Option Nat} (hg:w.grownBy w' row) (hr:∀ k,row = some k -> w0.heap.size <= k) (hd:∀ p ∈ L,some p.1 ≠ row):Mem w0 w' L:=by
 refine ⟨⟨hg.os.trans h.ext.os,hg.tape.trans h.ext.tape,hg.output.trans h.ext.output,Nat.le_trans h.ext.size hg.size,fun k hk => ?_⟩,fun g o hm => ⟨(h.own g o hm).1,?_⟩,h.nodup⟩
 ·rw [hg.block k (Nat.lt_of_lt_of_le hk h.ext.size) (fun e => by have:=hr k e.symm; omega)]
  exact h.ext.block k hk
 ·rw [hg.block g (h.lt hm) (hd _ hm)]
  exact (h.own g o hm).2
theorem ownsRow_ext {base e size n:Nat} {v:Value} {xs:List Value} (h:w.ownsRow base e size v n xs) (he:Ext w w'):w'.ownsRow base e size v n xs:=by
 obtain ⟨hl,hv | ⟨g,cap,cur,hv,hb,hg,h1⟩⟩:=h
 ·exact ⟨hl,.inl hv⟩
 ·exact ⟨hl,.inr ⟨g,cap,cur,hv,hb,he.heap hg,h1⟩⟩
theorem ownsRow_put {base e size n:Nat} {v:Value} {xs:List Value} (h:w.ownsRow base e size v n xs) {g:Nat} {o:Obj} (p:Put w g o w') (hne:v.ownBlock ≠ some g):w'.ownsRow base e size v n xs:=by
 obtain ⟨hl,hv | ⟨g',cap,cur,hv,hb,hg,h1⟩⟩:=h
 ·exact ⟨hl,.inl hv⟩
 ·refine ⟨hl,.inr ⟨g',cap,cur,hv,hb,?_,h1⟩⟩
  rw [p.there g' (fun e => hne (by subst hv; simp [Value.ownBlock,e]))]
  exact hg
theorem Put.ext_of {g:Nat} {o:Obj} (p:Put w g o w') (e:Ext w0 w) (hg:w0.heap.size <= g):Ext w0 w' :=
 ⟨p.os.trans e.os,p.tape.trans e.tape,p.output.trans e.output,by rw [p.size]; exact e.size,fun k hk => by rw [p.there k (by omega)]; exact e.block k hk⟩
theorem owns_block {base e size n g:Nat} {cs:List Value} (h:w.heap[g]? = some (.cells cs.toArray e (0,0))) (hb:base <= g) (hl:cs.length = n * size) (hn:n <= maxLen):w.ownsRow base e size (.slice (some ⟨g,0,none⟩) n n) n cs :=
 ⟨hl,.inr ⟨g,n,cs.toArray,rfl,hb,h,Nat.le_refl _,hn,by simpa using hl,by simp [<-hl]⟩⟩
def Reads (w:World) (A:Option Addr) (cs:List Value):Prop:=cs = [] ∨ ∃ b o,A = some ⟨b,o,none⟩ ∧ Rd w b o cs
theorem Reads.ext {A:Option Addr} {cs:List Value} (h:Reads w A cs) (e:Ext w w'):Reads w' A cs:=h.imp id fun ⟨b,o,hb,hr⟩ => ⟨b,o,hb,hr.ext e⟩
theorem reads_of_owns {base e size n:Nat} {v:Value} {xs:List Value} (h:w.ownsRow base e size v n xs):∃ A cap,v = .slice A n cap ∧ Reads w A xs ∧ n <= cap:=by
 obtain ⟨hl,⟨rfl,rfl⟩ | ⟨g,cap,cur,rfl,hb,hg,h1,h2,h3,h4⟩⟩:=h
 ·refine ⟨none,0,rfl,.inl ?_,Nat.le_refl 0⟩
  simpa using hl
 ·refine ⟨_,cap,rfl,.inr ⟨g,0,rfl,fun i u hu => ?_⟩,h1⟩
  rw [<-h4,List.getElem?_take] at hu
  split at hu
  ·have:cur[i]? = some u:=by simpa using hu
   simp [World.cell?,hg,this]
  ·cases hu
theorem cell_of_block {g i t:Nat} {c:Array Value} {fr:Nat × Nat} {v:Value} (h:w.heap[g]? = some (.cells c t fr)) (hi:c[i]? = some v):w.cell? ⟨g,i,none⟩ = some v:=by simp [World.cell?,h,hi]
theorem grownBy_trans {a b c:World} {row:Option Nat} (h:a.grownBy b row) (k:b.grownBy c row):a.grownBy c row :=
 ⟨k.os.trans h.os,k.tape.trans h.tape,k.output.trans h.output,Nat.le_trans h.size k.size,fun j hj hne => (k.block j (Nat.lt_of_lt_of_le hj h.size) hne).trans (h.block j hj hne)⟩
theorem grownBy_refl (a:World) (row:Option Nat):a.grownBy a row:=⟨rfl,rfl,rfl,Nat.le_refl _,fun _ _ _ => rfl⟩
theorem ext_grownBy {a b:World} (h:Ext a b) (row:Option Nat):a.grownBy b row:=⟨h.os,h.tape,h.output,h.size,fun k hk _ => h.block k hk⟩
theorem Put.grownBy {a b:World} {g:Nat} {o:Obj} (h:Put a g o b):a.grownBy b (some g):=⟨h.os,h.tape,h.output,by rw [h.size]; exact Nat.le_refl _,fun k _ hne => h.there k (fun e => hne (by rw [e]))⟩
theorem grownBy_heap {a b:World} {g k:Nat} {o:Obj} (h:a.grownBy b (some g)) (hk:a.heap[k]? = some o) (hne:k ≠ g):b.heap[k]? = some o:=by
 have hlt:k < a.heap.size:=(Array.getElem?_eq_some_iff.1 hk).1
 rw [h.block k hlt (fun e => hne (Option.some.inj e))]; exact hk
theorem lt_of_heap {a:World} {k:Nat} {o:Obj} (hk:a.heap[k]? = some o):k < a.heap.size:=(Array.getElem?_eq_some_iff.1 hk).1
theorem reads_grown_by {gs:Nat} {A:Option Addr} {cs:List Value} (h:∀ b o,A = some ⟨b,o,none⟩ -> b ≠ gs) (hr:Reads w A cs) (hg:w.grownBy w' (some gs)):Reads w' A cs:=by
 rcases hr with hr | ⟨b,o,hA,hr⟩
 ·exact .inl hr
 ·refine .inr ⟨b,o,hA,fun i v hv => ?_⟩
  exact hg.cell (hr i v hv) (fun e => h b o hA (Option.some.inj e))
def Only (t0:Nat) (w w':World):Prop:=∀ (q:Nat) (c:Array Value) (t:Nat) (fr:Nat × Nat),w.heap[q]? = some (.cells c t fr) -> t ≠ t0 -> w'.heap[q]? = some (.cells c t fr)
theorem only_ext (t0:Nat) (h:Ext w w'):Only t0 w w':=fun _ _ _ _ hq _ => h.heap hq
theorem only_put {t0 g:Nat} {o:Obj} {c:Array Value} {fr:Nat × Nat} (h:Put w g o w') (hg:w.heap[g]? = some (.cells c t0 fr)):Only t0 w w':=fun q c' t fr' hq hne => by
 rw [h.there q (fun e => by subst e; have:=hq.symm.trans hg; simp at this; exact hne this.2.1)]
 exact hq
theorem only_app {t0 base size n:Nat} {v:Value} {xs:List Value} (ho:w.ownsRow base t0 size v n xs) (hg:w.grownBy w' v.ownBlock):Only t0 w w':=fun q c t fr hq hne => by
 rw [hg.block q (lt_of_heap hq) ?_]
 ·exact hq
 ·intro e
  obtain ⟨_,hv | ⟨g',cap,cur,hv,_,hg',_⟩⟩:=ho
  ·rw [hv.1] at e; cases e
  ·rw [hv] at e
   have e:q = g':=by simpa [Value.ownBlock] using e
   subst e
   have:=hq.symm.trans hg'
   simp at this
   exact hne this.2.1
theorem ownsRow_only {t0 base e size n:Nat} {v:Value} {xs:List Value} (h:w.ownsRow base e size v n xs) (k:Only t0 w w') (hne:e ≠ t0):w'.ownsRow base e size v n xs:=by
 obtain ⟨hl,hv | ⟨g,cap,cur,hv,hb,hg,h1⟩⟩:=h
 ·exact ⟨hl,.inl hv⟩
 ·exact ⟨hl,.inr ⟨g,cap,cur,hv,hb,k g cur e _ hg hne,h1⟩⟩
theorem ownsRow_base {base base' e size n:Nat} {v:Value} {xs:List Value} (h:w.ownsRow base' e size v n xs) (hb:base <= base'):w.ownsRow base e size v n xs:=by
 obtain ⟨hl,hv | ⟨g,cap,cur,hv,hb',h1⟩⟩:=h
 ·exact ⟨hl,.inl hv⟩
 ·exact ⟨hl,.inr ⟨g,cap,cur,hv,Nat.le_trans hb hb',h1⟩⟩
theorem below_put {B g:Nat} {o:Obj} {w0:World} (h:Below B w0 w) (p:Put w g o w') (hg:B <= g):Below B w0 w' :=
 ⟨p.os.trans h.os,p.tape.trans h.tape,p.output.trans h.output,by rw [p.size]; exact h.size,fun k hk => by rw [p.there k (by omega)]; exact h.block k hk⟩
theorem below_ext {B:Nat} {w0:World} (h:Below B w0 w) (e:Ext w w') (hB:B <= w.heap.size):Below B w0 w':=h.trans (e.mono hB)
theorem below_app {B t0 size n:Nat} {w0:World} {v:Value} {xs:List Value} (h:Below B w0 w) (ho:w.ownsRow B t0 size v n xs) (hg:w.grownBy w' v.ownBlock) (hB:B <= w.heap.size):Below B w0 w' :=
 h.trans ⟨hg.os,hg.tape,hg.output,hg.size,fun k hk => hg.block k (by omega) (fun e => by have:=(ho.lt k e.symm).1; omega)⟩
theorem app_ext {e size n:Nat} {v:Value} {xs:List Value} (h:Ext w0 w) (ho:w.ownsRow w0.heap.size e size v n xs) (hg:w.grownBy w' v.ownBlock):Ext w0 w' :=
 ((⟨h,fun _ _ hm => (by cases hm),List.nodup_nil⟩:Mem w0 w []).grown hg (fun k hk => (ho.lt k hk).1) (fun p hp => (by cases hp))).ext
theorem Keep.put {D:Nat -> Prop} {a b c:World} {g:Nat} {o:Obj} (h:Keep D a b) (p:Put b g o c) (hg:¬ D g):Keep D a c :=
 ⟨p.os.trans h.os,p.tape.trans h.tape,p.output.trans h.output,by rw [p.size]; exact h.size,fun k hD hk => by rw [p.there k (fun e => hg (e ▸ hD))]; exact h.block k hD hk⟩
end Go.Eng
namespace Go.Eng
open Go.RowKit
def noGotoE (Q:Exit -> Env -> World -> Prop):Exit -> Env -> World -> Prop
 | .goto _,_,_ => False
 | e,l,w => Q e l w
theorem scopeE {C:Cfg} (hC:C.Ok) {n:Nat} {plans:List (Nat × PlanT)} {c:Code} {l:Env} {w:World} {Q:Exit -> Env -> World -> Prop} (h:codeE C n plans c l w (noGotoE Q)):ScopeE C n plans c l w Q:=by
 intro hok d a w₁ hr hs hdw
 refine wp_scope_straight (wp_mono (codeE_sound hC c l w _ hok h d a w₁ hr hs hdw) ?_)
 rintro e a' w' ⟨l',w'',hq,hr',hs',hd'⟩
 cases e with
 | goto k => exact hq.elim
 | _ => exact ⟨l',w'',hq,hr',hs',hd'⟩
def eqRun (P:Program) (d:Nat) (t:Nat) (a b:Value) (r:Bool):Prop:=∀ w:World,(Op.equalIn d t a b).run P w = .ok r w
theorem eqRun_arr {P:Program} {d t n e:Nat} {xs ys:Array Value} {te:TI} (hu:P.underlying t = some (.array n e)) (he:TIok P e te) (ha:te.d.agg = false) (hs:te.size = 1) {f:Nat -> Bool}
  (hx:∀ i < n,∃ u v,xs[i]? = some u ∧ ys[i]? = some v ∧ eqRun P d e u v (f i)):eqRun P (d + 1) t (.agg xs) (.agg ys) ((List.range n).all f):=by
 intro w
 simp only [Op.equalIn,Sem.run_bind,run_underlying hu,Result.andThen_ok,he.run_size,hs,Nat.mul_one]
 rw [Std.Legacy.Range.forIn_eq_forIn_range']
 have key:∀ (m k:Nat),k + m = n -> ((forIn (List.range' k m 1) ((none,()):Option Bool × Unit) fun i _ => (do
   let a <-part e xs i
   let b <-part e ys i
   let r <-Op.equalIn d e a b
   if (!r) = true then pure (ForInStep.done (some false,())) else pure (ForInStep.yield (none,())):Sem (ForInStep (Option Bool × Unit)))).run P w) = .ok (if (List.range' k m 1).all f then none else some false,()) w:=by
  intro m
  induction m with
  | zero => intro k _; simp
  | succ m ih =>
   intro k hk
   obtain ⟨u,v,h1,h2,h3⟩:=hx k (by omega)
   rw [List.range'_succ,List.forIn_cons]
   have p1:(part e xs k).run P w = .ok u w:=by simp [part,he.run_agg,ha,h1]
   have p2:(part e ys k).run P w = .ok v w:=by simp [part,he.run_agg,ha,h2]
   simp only [Sem.run_bind,p1,p2,Result.andThen_ok,h3 w]
   cases hf:f k with
   | false => simp [hf]
   | true =>
    simp only [Bool.not_true,Bool.false_eq_true,if_false,Sem.run_pure,Result.andThen_ok,List.all_cons,hf,Bool.true_and]
    exact ih (k + 1) (by omega)
 have h0:=key n 0 (by omega)
 simp only [Std.Legacy.Range.size,Nat.sub_zero,Nat.add_sub_cancel,Nat.div_one] at h0 ⊢
 rw [h0]
 rw [List.range_eq_range']
 by_cases hall:(List.range' 0 n 1).all f = true
 ·simp [hall]
 ·have:(List.range' 0 n 1).all f = false:=by simpa using hall
  simp [this]
end Go.Eng
namespace Go.Eng
open Go.RowKit
open Go.Maps (Keyed)
def MapIs (P:Program) (k:Nat) (w:World) (b:Nat) (f:Value -> Option Value):Prop :=
 ∃ es clk,w.heap[b]? = some (.map es clk) ∧ (∀ e ∈ es.toList,∃ l,keyOf P k e.key = some l) ∧ (es.toList.map MapEntry.key).Nodup ∧ (∀ e ∈ es.toList,f e.key = some e.val) ∧ ∀ x v,f x = some v -> ∃ e ∈ es.toList,e.key = x
theorem MapIs.ext {P:Program} {k:Nat} {w w':World} {b:Nat} {f:Value -> Option Value} (h:MapIs P k w b f) (e:Ext w w'):MapIs P k w' b f :=
 let ⟨es,clk,h1,h2⟩:=h
 ⟨es,clk,e.heap h1,h2⟩
theorem MapIs.put {P:Program} {k:Nat} {w w':World} {b g:Nat} {o:Obj} {f:Value -> Option Value} (h:MapIs P k w b f) (p:Put w g o w') (hne:b ≠ g):MapIs P k w' b f :=
 let ⟨es,clk,h1,h2⟩:=h
 ⟨es,clk,(p.there b hne).trans h1,h2⟩
theorem MapIs.same {P:Program} {k:Nat} {w w':World} {b:Nat} {f:Value -> Option Value} (h:MapIs P k w b f) (e:w'.heap[b]? = w.heap[b]?):MapIs P k w' b f :=
 let ⟨es,clk,h1,h2⟩:=h
 ⟨es,clk,e.trans h1,h2⟩
theorem MapIs.empty {P:Program} {k:Nat} {w:World} {b:Nat} (h:w.heap[b]? = some (.map #[] 0)):MapIs P k w b fun _ => none :=
 ⟨#[],0,h,fun _ h => by simp at h,by simp,fun _ h => by simp at h,fun _ _ h => by cases h⟩
open Classical in
noncomputable def updV (f:Value -> Option Value) (x v:Value):Value -> Option Value:=fun y => if y = x then some v else f y
section
variable {C:Cfg}
theorem mapGet (hC:C.Ok) {o:Oper} {t:Nat} {m ix:Operand} {ok:Bool} {l:Env} {w:World} {b k e:Nat} {x:Value} {lx:Lit} {ti te:TI} {f:Value -> Option Value} (ho:o.op = .lookup t m ix ok)
  (hm:evo l m = some (.map (some b))) (hx:evo l ix = some x) (hti:C.ti t = some ti) (hd:ti.d = .map k e) (hte:C.ti e = some te) (K:Keyed C.P k) (hkey:keyOf C.P k x = some lx) (hM:MapIs C.P k w b f) :
  QuietRun C o l w (if ok then .tuple #[(f x).getD te.zero,.bool (f x).isSome] else (f x).getD te.zero):=by
 intro ρ hρ w' hw
 obtain ⟨es,clk,hb,hgood,hnd,hval,hdom⟩:=hM.ext hw
 have hu:=(hC.ti hti).isMap hd
 unfold execOp
 rw [ho]
 have hchk:∀ em,(Instr.checkKey em 10000 k x).run C.P w' = .ok () w':=fun em => K.check w' em hkey
 rcases K.find w' hkey es.toList hgood with ⟨h1,h2⟩ | ⟨j,e0,h1,h2,h3⟩
 ·have hf:f x = none:=by
   cases hfx:f x with
   | none => rfl
   | some v => obtain ⟨e,he,hk⟩:=hdom x v hfx; exact absurd hk (h2 e he)
  simp only [hρ _ _ hm,hρ _ _ hx,hf]
  cases ok <;> simp [Instr.lookup,run_underlying hu,MapKept.run_getObj_map hb,hchk,h1,(hC.ti hte).run_zero]
 ·have hf:f x = some e0.val:=by rw [<-h3]; exact hval e0 (List.mem_of_getElem? h2)
  simp only [hρ _ _ hm,hρ _ _ hx,hf]
  cases ok <;> simp [Instr.lookup,run_underlying hu,MapKept.run_getObj_map hb,hchk,h1]
theorem mapGet1 (hC:C.Ok) {o:Oper} {t:Nat} {m ix:Operand} {l:Env} {w:World} {b k e:Nat} {x v:Value} {lx:Lit} {ti te:TI} {f:Value -> Option Value} (hkey:keyOf C.P k x = some lx) (hM:MapIs C.P k w b f) (K:Keyed C.P k)
  (ho:o.op = .lookup t m ix false) (hm:evo l m = some (.map (some b))) (hx:evo l ix = some x) (hti:C.ti t = some ti) (hd:ti.d = .map k e) (hte:C.ti e = some te) (hv:(f x).getD te.zero = v):QuietRun C o l w v:=by
 have:=mapGet hC ho hm hx hti hd hte K hkey hM
 rw [<-hv]
 simpa using this
theorem put_setObj {w w₁:World} (hs:Same w w₁) {b:Nat} {o o':Obj} (hg:w.heap[b]? = some o):Put w b o' { w₁ with heap:=w₁.heap.setIfInBounds b o' }:=by
 have hlt:b < w.heap.size:=(Array.getElem?_eq_some_iff.1 hg).1
 refine ⟨by simp [hs.heap],by simp [hs.heap,hlt],fun k hk => ?_,hs.os,hs.tape,hs.output⟩
 rw [Array.getElem?_setIfInBounds,if_neg (fun e => hk e.symm),hs.heap]
theorem mapPut (hC:C.Ok) {o:Oper} {t:Nat} {m ix xv:Operand} {l:Env} {w:World} {b k e:Nat} {x v:Value} {lx:Lit} {ti:TI} {f:Value -> Option Value} (ho:o.op = .mapUpdate t m ix xv)
  (hm:evo l m = some (.map (some b))) (hx:evo l ix = some x) (hv:evo l xv = some v) (hti:C.ti t = some ti) (hd:ti.d = .map k e) (K:Keyed C.P k) (hkey:keyOf C.P k x = some lx) (hM:MapIs C.P k w b f)
  {Q:Value -> World -> Prop} (h:∀ o' w',Put w b o' w' -> MapIs C.P k w' b (updV f x v) -> Q undef w'):LoudRun C o l w Q:=by
 intro ρ hρ w₁ hs
 obtain ⟨es,clk,hb,hgood,hnd,hval,hdom⟩:=hM
 have hb1:w₁.heap[b]? = some (.map es clk):=by rw [hs.heap]; exact hb
 have hu:=(hC.ti hti).isMap hd
 have hchk:∀ em,(Instr.checkKey em 10000 k x).run C.P w₁ = .ok () w₁:=fun em => K.check w₁ em hkey
 rcases K.find w₁ hkey es.toList hgood with ⟨h1,h2⟩ | ⟨j,e0,h1,h2,h3⟩
 ·refine ⟨undef,_,_,.inr ⟨?_,rfl⟩,h _ _ (put_setObj hs (o':=.map (es.push ⟨x,v,clk⟩) (clk + 1)) hb) ?_,Same.refl _⟩
  ·unfold execOp
   rw [ho]
   simp [hρ _ _ hm,hρ _ _ hx,hρ _ _ hv,Instr.mapUpdate,run_underlying hu,MapKept.run_getObj_map hb1,hchk,h1,MapKept.run_setObj_map _ hb1]
  ·refine ⟨_,_,(put_setObj hs hb).here,?_,?_,?_,?_⟩
   ·intro e he
    simp only [Array.toList_push,List.mem_append,List.mem_singleton] at he
    rcases he with he | rfl
    ·exact hgood e he
    ·exact ⟨_,hkey⟩
   ·rw [Array.toList_push,List.map_append,List.nodup_append]
    refine ⟨hnd,by simp,?_⟩
    intro a ha c hc
    obtain ⟨e,he,rfl⟩:=List.mem_map.1 ha
    have hc:c = x:=by simpa using hc
    subst hc
    exact h2 e he
   ·intro e he
    simp only [Array.toList_push,List.mem_append,List.mem_singleton] at he
    unfold updV
    rcases he with he | rfl
    ·rw [if_neg (h2 e he)]; exact hval e he
    ·simp
   ·intro y u hy
    unfold updV at hy
    simp only [Array.toList_push,List.mem_append,List.mem_singleton]
    by_cases e:y = x
    ·subst e; exact ⟨_,.inr rfl,rfl⟩
    ·rw [if_neg e] at hy
     obtain ⟨e',he',hk⟩:=hdom y u hy
     exact ⟨e',.inl he',hk⟩
 ·have hj:es[j]? = some e0:=by simpa using h2
  have hjl:j < es.toList.length:=(List.getElem?_eq_some_iff.1 h2).1
  have hst:(Instr.keyThatStays e0.key x).run C.P w₁ = .ok x w₁:=by rw [h3]; exact K.stays w₁ hkey
  have emod:(es.modify j fun e => { e with key:=x,val:=v }).toList = es.toList.modify j fun e => { e with key:=x,val:=v }:=by simp
  have hset:es.toList.modify j (fun e => { e with key:=x,val:=v }) = es.toList.set j { e0 with key:=x,val:=v }:=by
   apply List.ext_getElem?
   intro i
   rw [List.getElem?_modify,List.getElem?_set]
   by_cases hij:j = i
   ·subst hij; simp [h2]; simpa using hjl
   ·simp [hij]
  refine ⟨undef,_,_,.inr ⟨?_,rfl⟩,h _ _ (put_setObj hs (o':=.map (es.modify j fun e => { e with key:=x,val:=v }) clk) hb) ?_,Same.refl _⟩
  ·unfold execOp
   rw [ho]
   simp [hρ _ _ hm,hρ _ _ hx,hρ _ _ hv,Instr.mapUpdate,run_underlying hu,MapKept.run_getObj_map hb1,hchk,h1,hj,hst,MapKept.run_setObj_map _ hb1]
  ·refine ⟨_,_,(put_setObj hs hb).here,?_,?_,?_,?_⟩
   ·rw [emod,hset]
    intro e he
    rcases List.mem_or_eq_of_mem_set he with he | rfl
    ·exact hgood e he
    ·exact ⟨_,hkey⟩
   ·rw [emod,hset,List.map_set]
    have:(es.toList.map MapEntry.key).set j x = es.toList.map MapEntry.key:=by
     apply List.ext_getElem?
     intro i
     rw [List.getElem?_set]
     split
     ·rename_i hi
      subst hi
      simp [hj,h3]
      simpa using hjl
     ·rfl
    rw [this]; exact hnd
   ·rw [emod,hset]
    intro e he
    unfold updV
    obtain ⟨i,hi⟩:=List.mem_iff_getElem?.1 he
    rw [List.getElem?_set] at hi
    by_cases hij:j = i
    ·subst hij
     simp at hi
     have:=hi.2
     subst this
     simp
    ·rw [if_neg hij] at hi
     have hne:e.key ≠ x:=by
      intro ek
      have h5:(es.toList.map MapEntry.key)[i]? = some x:=by rw [List.getElem?_map,hi]; simp [ek]
      have h6:(es.toList.map MapEntry.key)[j]? = some x:=by rw [List.getElem?_map,h2]; simp [h3]
      have hlt:i < (es.toList.map MapEntry.key).length:=(List.getElem?_eq_some_iff.1 h5).1
      exact hij ((List.getElem?_inj hlt hnd).1 (h5.trans h6.symm)).symm
     rw [if_neg hne]
     exact hval e (List.mem_of_getElem? hi)
   ·intro y u hy
    rw [emod,hset]
    unfold updV at hy
    by_cases e:y = x
    ·subst e; exact ⟨_,List.mem_set hjl _,rfl⟩
    ·rw [if_neg e] at hy
     obtain ⟨e',he',hk⟩:=hdom y u hy
     obtain ⟨i,hi⟩:=List.mem_iff_getElem?.1 he'
     refine ⟨e',List.mem_iff_getElem?.2 ⟨i,?_⟩,hk⟩
     rw [List.getElem?_set,if_neg ?_]
     ·exact hi
     ·intro hji
      subst hji
      have:=h2.symm.trans hi
      cases this
      exact e (hk.symm.trans h3)
theorem capQ (hC:C.Ok) {o:Oper} {t:Nat} {x:Operand} {l:Env} {w:World} {A:Option Addr} {n c e esz eb:Nat} {ti:TI} (ho:o.op = .call ⟨.builtin .cap,#[x],#[t]⟩) (hx:evo l x = some (.slice A n c)) (hti:C.ti t = some ti) (hd:ti.d = .slice e esz eb) :
  QuietRun C o l w (.int .i64 c):=by
 intro ρ hρ w' _
 have hu:=((hC.ti hti).isSlice hd).1
 unfold execOp
 rw [ho]
 simp [resolve,invoke,builtin,hρ _ _ hx,Builtin.cap_,run_underlying hu,goInt]
theorem ownsRow_cut {w:World} {base e size n k cap g:Nat} {xs:List Value} (h:w.ownsRow base e size (.slice (some ⟨g,0,none⟩) n cap) n xs) (hk:k <= n):w.ownsRow base e size (.slice (some ⟨g,0,none⟩) k cap) k (xs.take (k * size)):=by
 obtain ⟨hl,⟨hv,_⟩ | ⟨g',cap',cur,hv,h1,h2,h3,h4,h5,h6⟩⟩:=h
 ·cases hv
 ·cases hv
  have hkn:k * size <= n * size:=Nat.mul_le_mul_right _ hk
  refine ⟨by rw [List.length_take,hl]; omega,.inr ⟨g,cap,cur,rfl,h1,h2,by omega,h4,h5,?_⟩⟩
  rw [<-h6,List.take_take,Nat.min_eq_left hkn]
theorem zeroCells_one (z:Value) (n:Nat):Builtin.zeroCells #[z] n = (List.replicate n z).toArray:=by
 apply Array.ext'
 unfold Builtin.zeroCells
 apply List.ext_getElem?
 intro i
 by_cases hi:i < n
 ·simp [hi,Nat.mod_one]
 ·simp [hi]
theorem appendMake (hC:C.Ok) {o:Oper} {t tn e eb n:Nat} {s x:Operand} {l:Env} {w:World} {q kn:IntKind} {ti tin te:TI} (ho:o.op = .call ⟨.builtin .append,#[s,x],#[t,tn]⟩)
  (hs:evo l s = some (.slice none 0 0)) (hx:evo l x = some (.int q n)) (hti:C.ti t = some ti) (hd:ti.d = .slice e 1 eb) (htin:C.ti tn = some tin) (hdn:tin.d = .int kn) (hte:C.ti e = some te) (hz:te.zero.cells = #[te.zero])
  (h0:0 < n) (hn:n <= maxLen) (hb:n * eb <= 140737488355328)
  {Q:Value -> World -> Prop} (h:∀ g cap w',Ext w w' -> w'.ownsRow w.heap.size e 1 (.slice (some ⟨g,0,none⟩) n cap) n (List.replicate n te.zero) -> Q (.slice (some ⟨g,0,none⟩) n cap) w'):LoudRun C o l w Q:=by
 intro ρ hρ w₁ hw
 obtain ⟨hu,i,hi,hisz,hby⟩:=(hC.ti hti).isSlice hd
 obtain ⟨i',hi',hsz',hz'⟩:=(hC.ti hte).got
 have hii:i' = i:=Option.some.inj (hi'.symm.trans hi)
 subst hii
 have hun:=(hC.ti htin).isInt hdn
 have hge:=grownCap_ge w₁ n 0 e
 have hcm:=grownCap_le_maxLen w₁ n 0 e hn
 have h63:(n:Int) <= 9223372036854775807:=by simp only [maxLen] at hn; omega
 have hr:=Go.Lib.run_append_nil_zeros (P:=C.P) w₁ t tn o.type e i' te.zero q kn hu hun hi hz' n h0 (by rw [hisz]; exact Nat.one_pos) h63 (by rw [hby]; omega)
 rw [hz,zeroCells_one,zeroCells_one] at hr
 refine ⟨_,(w₁.drew.alloc (.cells ((List.replicate n te.zero).toArray ++ (List.replicate (grownCap w₁ n 0 e - n) te.zero).toArray) e)),_,.inl ?_,h w₁.heap.size (grownCap w₁ n 0 e) _ ?_ ?_,Same.refl _⟩
 ·unfold execOp
  rw [ho]
  simp only [resolve,invoke,builtin,List.map_toArray,List.map_cons,List.map_nil,hρ _ _ hs,hρ _ _ hx,Sem.run_bind,Sem.run_pure,Result.andThen_ok,hr]
 ·refine ⟨hw.os,hw.tape,hw.output,?_,fun k hk => ?_⟩
  ·show w.heap.size <= (w₁.heap.push _).size
   rw [hw.heap]; simp
  ·show (w₁.heap.push _)[k]? = _
   rw [hw.heap,Array.getElem?_push,if_neg (Nat.ne_of_lt hk)]
 ·refine ⟨by simp,.inr ⟨w₁.heap.size,_,(List.replicate n te.zero).toArray ++ (List.replicate (grownCap w₁ n 0 e - n) te.zero).toArray,rfl,by rw [hw.heap]; exact Nat.le_refl _,?_,hge,hcm,?_,?_⟩⟩
  ·show (w₁.heap.push _)[w₁.heap.size]? = _
   simp
  ·simp; omega
  ·simp
end
end Go.Eng
