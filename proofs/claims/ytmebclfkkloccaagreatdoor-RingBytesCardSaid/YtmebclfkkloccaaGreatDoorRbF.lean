/- Facts on the program's types, by the kernel. Written by wip/shade/sk.py. -/
import Derived.Test.YtmebclfkkloccaaGreatDoorLibC
import Derived.Test.YtmebclfkkloccaaGreatDoorProg
import Derived.KernelRfl
namespace Go.Proofs.YtmebclfkkloccaaGreatDoor
set_option linter.unusedSimpArgs false
set_option linter.unusedVariables false
set_option linter.unusedSectionVars false
set_option linter.unnecessarySimpa false
open Go.Shade
set_option maxRecDepth 100000
theorem agg_spyglassref01_Reader : isAgg' Tryz.prog 127 = some true := by kernel_rfl
theorem agg_int : isAgg' Tryz.prog 3 = some false := by kernel_rfl
theorem agg_uint64 : isAgg' Tryz.prog 45 = some false := by kernel_rfl
theorem agg_S_uint8 : isAgg' Tryz.prog 46 = some false := by kernel_rfl
theorem agg_uint8 : isAgg' Tryz.prog 5 = some false := by kernel_rfl
theorem agg_api_Errno : isAgg' Tryz.prog 51 = some false := by kernel_rfl
theorem arrK_A2_uint64 : arrK Tryz.prog 128 = some (2, 1) := by kernel_rfl
theorem bld_spyglassref01_Reader : buildAt Tryz.prog 127 = some [(0, 1), (1, 1), (2, 1)] := by kernel_rfl
theorem bld_wire_Reader : buildAt Tryz.prog 157 = some [(0, 1), (1, 1), (2, 1)] := by kernel_rfl
theorem eltA_S_uint8 : eltAll Tryz.prog 46 = some (1, 1, [.int .u8 0]) := by kernel_rfl
theorem eltK_S_uint8 : eltK Tryz.prog 46 = some 1 := by kernel_rfl
theorem fo_spyglassref01_Reader_0 : fieldOff Tryz.prog 127 0 = some 0 := by kernel_rfl
theorem fo_spyglassref01_Reader_1 : fieldOff Tryz.prog 127 1 = some 1 := by kernel_rfl
theorem fo_spyglassref01_Reader_2 : fieldOff Tryz.prog 127 2 = some 2 := by kernel_rfl
theorem fo_wire_Reader_0 : fieldOff Tryz.prog 157 0 = some 0 := by kernel_rfl
theorem fo_wire_Reader_1 : fieldOff Tryz.prog 157 1 = some 1 := by kernel_rfl
theorem fo_wire_Reader_2 : fieldOff Tryz.prog 157 2 = some 2 := by kernel_rfl
theorem siz_spyglassref01_Reader : sizeOf' Tryz.prog 127 = some 3 := by kernel_rfl
theorem siz_A2_uint64 : sizeOf' Tryz.prog 128 = some 2 := by kernel_rfl
theorem siz_int : sizeOf' Tryz.prog 3 = some 1 := by kernel_rfl
theorem siz_uint64 : sizeOf' Tryz.prog 45 = some 1 := by kernel_rfl
theorem siz_uint8 : sizeOf' Tryz.prog 5 = some 1 := by kernel_rfl
theorem siz_api_Errno : sizeOf' Tryz.prog 51 = some 1 := by kernel_rfl
theorem und_P_wire_Reader : Tryz.prog.underlying 120 = some (.pointer 157) := by kernel_rfl
theorem und_int : Tryz.prog.underlying 3 = some (.int .i64) := by kernel_rfl
theorem und_uint64 : Tryz.prog.underlying 45 = some (.int .u64) := by kernel_rfl
theorem und_S_uint8 : Tryz.prog.underlying 46 = some (.slice 5) := by kernel_rfl
theorem und_uint8 : Tryz.prog.underlying 5 = some (.int .u8) := by kernel_rfl
theorem und_uint : Tryz.prog.underlying 97 = some (.int .u64) := by kernel_rfl
theorem zer_spyglassref01_Reader : zero' Tryz.prog 127 = some (.agg #[.slice none 0 0, .int .i64 0, .int .i64 0]) := by kernel_rfl
theorem zer_A2_uint64 : zero' Tryz.prog 128 = some (.agg #[.int .u64 0, .int .u64 0]) := by kernel_rfl
theorem zer_wire_Reader : zero' Tryz.prog 157 = some (.agg #[.slice none 0 0, .int .i64 0, .int .i64 0]) := by kernel_rfl
end Go.Proofs.YtmebclfkkloccaaGreatDoor
