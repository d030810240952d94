/- The facts of this program's types and functions (written by a program). -/
import Derived.Test.YtfplmdjlgjgbgaaK1
import Derived.Test.YtfplmdjlgjgbgaaProg
import Derived.KernelRfl
namespace Go.Proofs.Ytfplmdjlgjgbgaa
set_option linter.unusedVariables false
set_option linter.unusedSimpArgs false
open Go Go.RowKit

theorem T1_2 : T1 Try.prog 2 := ⟨fun w => by kernel_rfl, fun w => by kernel_rfl⟩
theorem TI_2 : TI Try.prog 2 (.int .i64 0) 1 8 := TI.of (by kernel_rfl) rfl (by decide) (by decide)
theorem U_2 : Try.prog.underlying 2 = some (.int .i64) := by kernel_rfl
theorem T1_3 : T1 Try.prog 3 := ⟨fun w => by kernel_rfl, fun w => by kernel_rfl⟩
theorem TI_3 : TI Try.prog 3 (.int .i64 0) 1 8 := TI.of (by kernel_rfl) rfl (by decide) (by decide)
theorem U_3 : Try.prog.underlying 3 = some (.int .i64) := by kernel_rfl
theorem T1_4 : T1 Try.prog 4 := ⟨fun w => by kernel_rfl, fun w => by kernel_rfl⟩
theorem TI_4 : TI Try.prog 4 (.bool false) 1 1 := TI.of (by kernel_rfl) rfl (by decide) (by decide)
theorem U_4 : Try.prog.underlying 4 = some .bool := by kernel_rfl
theorem T1_5 : T1 Try.prog 5 := ⟨fun w => by kernel_rfl, fun w => by kernel_rfl⟩
theorem TI_5 : TI Try.prog 5 (.int .u8 0) 1 1 := TI.of (by kernel_rfl) rfl (by decide) (by decide)
theorem U_5 : Try.prog.underlying 5 = some (.int .u8) := by kernel_rfl
theorem T1_9 : T1 Try.prog 9 := ⟨fun w => by kernel_rfl, fun w => by kernel_rfl⟩
theorem TI_9 : TI Try.prog 9 (.string ⟨#[]⟩) 1 16 := TI.of (by kernel_rfl) rfl (by decide) (by decide)
theorem U_9 : Try.prog.underlying 9 = some .string := by kernel_rfl
theorem T1_12 : T1 Try.prog 12 := ⟨fun w => by kernel_rfl, fun w => by kernel_rfl⟩
theorem TI_12 : TI Try.prog 12 (.int .u64 0) 1 8 := TI.of (by kernel_rfl) rfl (by decide) (by decide)
theorem U_12 : Try.prog.underlying 12 = some (.int .u64) := by kernel_rfl
theorem TA_13 : TA Try.prog 13 2 := ⟨fun w => by kernel_rfl, fun w => by kernel_rfl⟩
theorem TI_13 : TI Try.prog 13 (.agg #[.string ⟨#[]⟩, .int .u64 0]) 2 24 := TI.of (by kernel_rfl) rfl (by decide) (by decide)
def fd_13_0 : Field := { name := "msg", type := 9, offset := 0, embedded := false, tag := "", pkgPath := "runtime", byteOffset := 0 }
def fd_13_1 : Field := { name := "addr", type := 12, offset := 1, embedded := false, tag := "", pkgPath := "runtime", byteOffset := 16 }
theorem U_13 : Try.prog.underlying 13 = some (.struct #[fd_13_0, fd_13_1]) := by kernel_rfl
theorem T1_21 : T1 Try.prog 21 := ⟨fun w => by kernel_rfl, fun w => by kernel_rfl⟩
theorem TI_21 : TI Try.prog 21 (.int .i32 0) 1 4 := TI.of (by kernel_rfl) rfl (by decide) (by decide)
theorem U_21 : Try.prog.underlying 21 = some (.int .i32) := by kernel_rfl
theorem T1_23 : T1 Try.prog 23 := ⟨fun w => by kernel_rfl, fun w => by kernel_rfl⟩
theorem TI_23 : TI Try.prog 23 (.slice none 0 0) 1 24 := TI.of (by kernel_rfl) rfl (by decide) (by decide)
theorem U_23 : Try.prog.underlying 23 = some (.slice 3) := by kernel_rfl
theorem T1_24 : T1 Try.prog 24 := ⟨fun w => by kernel_rfl, fun w => by kernel_rfl⟩
theorem TI_24 : TI Try.prog 24 (.slice none 0 0) 1 24 := TI.of (by kernel_rfl) rfl (by decide) (by decide)
theorem U_24 : Try.prog.underlying 24 = some (.slice 35) := by kernel_rfl
theorem T1_25 : T1 Try.prog 25 := ⟨fun w => by kernel_rfl, fun w => by kernel_rfl⟩
theorem TI_25 : TI Try.prog 25 (.int .i64 0) 1 8 := TI.of (by kernel_rfl) rfl (by decide) (by decide)
theorem U_25 : Try.prog.underlying 25 = some (.int .i64) := by kernel_rfl
theorem T1_26 : T1 Try.prog 26 := ⟨fun w => by kernel_rfl, fun w => by kernel_rfl⟩
theorem TI_26 : TI Try.prog 26 (.slice none 0 0) 1 24 := TI.of (by kernel_rfl) rfl (by decide) (by decide)
theorem U_26 : Try.prog.underlying 26 = some (.slice 57) := by kernel_rfl
theorem T1_27 : T1 Try.prog 27 := ⟨fun w => by kernel_rfl, fun w => by kernel_rfl⟩
theorem TI_27 : TI Try.prog 27 (.int .i64 0) 1 8 := TI.of (by kernel_rfl) rfl (by decide) (by decide)
theorem U_27 : Try.prog.underlying 27 = some (.int .i64) := by kernel_rfl
theorem TA_28 : TA Try.prog 28 4 := ⟨fun w => by kernel_rfl, fun w => by kernel_rfl⟩
theorem TI_28 : TI Try.prog 28 (.agg #[.int .i64 0, .int .i64 0, .slice none 0 0, .int .i64 0]) 4 48 := TI.of (by kernel_rfl) rfl (by decide) (by decide)
def fd_28_0 : Field := { name := "Kind", type := 25, offset := 0, embedded := false, tag := "", pkgPath := "", byteOffset := 0 }
def fd_28_1 : Field := { name := "Val", type := 3, offset := 1, embedded := false, tag := "", pkgPath := "", byteOffset := 8 }
def fd_28_2 : Field := { name := "Ways", type := 26, offset := 2, embedded := false, tag := "", pkgPath := "", byteOffset := 16 }
def fd_28_3 : Field := { name := "Trap", type := 27, offset := 3, embedded := false, tag := "", pkgPath := "", byteOffset := 40 }
theorem U_28 : Try.prog.underlying 28 = some (.struct #[fd_28_0, fd_28_1, fd_28_2, fd_28_3]) := by kernel_rfl
theorem TA_29 : TA Try.prog 29 4 := ⟨fun w => by kernel_rfl, fun w => by kernel_rfl⟩
theorem TI_29 : TI Try.prog 29 (.agg #[.int .i64 0, .int .i64 0, .slice none 0 0, .int .i64 0]) 4 48 := TI.of (by kernel_rfl) rfl (by decide) (by decide)
def fd_29_0 : Field := { name := "Kind", type := 25, offset := 0, embedded := false, tag := "", pkgPath := "", byteOffset := 0 }
def fd_29_1 : Field := { name := "Val", type := 3, offset := 1, embedded := false, tag := "", pkgPath := "", byteOffset := 8 }
def fd_29_2 : Field := { name := "Ways", type := 26, offset := 2, embedded := false, tag := "", pkgPath := "", byteOffset := 16 }
def fd_29_3 : Field := { name := "Trap", type := 27, offset := 3, embedded := false, tag := "", pkgPath := "", byteOffset := 40 }
theorem U_29 : Try.prog.underlying 29 = some (.struct #[fd_29_0, fd_29_1, fd_29_2, fd_29_3]) := by kernel_rfl
theorem TA_30 : TA Try.prog 30 6 := ⟨fun w => by kernel_rfl, fun w => by kernel_rfl⟩
theorem TI_30 : TI Try.prog 30 (.agg #[.slice none 0 0, .slice none 0 0, .int .i64 0, .int .i64 0, .slice none 0 0, .int .i64 0]) 6 96 := TI.of (by kernel_rfl) rfl (by decide) (by decide)
def fd_30_0 : Field := { name := "Params", type := 23, offset := 0, embedded := false, tag := "", pkgPath := "", byteOffset := 0 }
def fd_30_1 : Field := { name := "Ins", type := 24, offset := 1, embedded := false, tag := "", pkgPath := "", byteOffset := 24 }
def fd_30_2 : Field := { name := "End", type := 29, offset := 2, embedded := false, tag := "", pkgPath := "", byteOffset := 48 }
theorem U_30 : Try.prog.underlying 30 = some (.struct #[fd_30_0, fd_30_1, fd_30_2]) := by kernel_rfl
theorem TA_31 : TA Try.prog 31 6 := ⟨fun w => by kernel_rfl, fun w => by kernel_rfl⟩
theorem TI_31 : TI Try.prog 31 (.agg #[.slice none 0 0, .slice none 0 0, .int .i64 0, .int .i64 0, .slice none 0 0, .int .i64 0]) 6 96 := TI.of (by kernel_rfl) rfl (by decide) (by decide)
def fd_31_0 : Field := { name := "Params", type := 23, offset := 0, embedded := false, tag := "", pkgPath := "", byteOffset := 0 }
def fd_31_1 : Field := { name := "Ins", type := 24, offset := 1, embedded := false, tag := "", pkgPath := "", byteOffset := 24 }
def fd_31_2 : Field := { name := "End", type := 29, offset := 2, embedded := false, tag := "", pkgPath := "", byteOffset := 48 }
theorem U_31 : Try.prog.underlying 31 = some (.struct #[fd_31_0, fd_31_1, fd_31_2]) := by kernel_rfl
theorem T1_32 : T1 Try.prog 32 := ⟨fun w => by kernel_rfl, fun w => by kernel_rfl⟩
theorem TI_32 : TI Try.prog 32 (.int .i64 0) 1 8 := TI.of (by kernel_rfl) rfl (by decide) (by decide)
theorem U_32 : Try.prog.underlying 32 = some (.int .i64) := by kernel_rfl
theorem T1_33 : T1 Try.prog 33 := ⟨fun w => by kernel_rfl, fun w => by kernel_rfl⟩
theorem TI_33 : TI Try.prog 33 (.int .i64 0) 1 8 := TI.of (by kernel_rfl) rfl (by decide) (by decide)
theorem U_33 : Try.prog.underlying 33 = some (.int .i64) := by kernel_rfl
theorem TA_34 : TA Try.prog 34 7 := ⟨fun w => by kernel_rfl, fun w => by kernel_rfl⟩
theorem TI_34 : TI Try.prog 34 (.agg #[.int .i64 0, .int .i64 0, .slice none 0 0, .int .i64 0, .int .i64 0, .int .i64 0, .int .i64 0]) 7 72 := TI.of (by kernel_rfl) rfl (by decide) (by decide)
def fd_34_0 : Field := { name := "Op", type := 32, offset := 0, embedded := false, tag := "", pkgPath := "", byteOffset := 0 }
def fd_34_1 : Field := { name := "Dst", type := 3, offset := 1, embedded := false, tag := "", pkgPath := "", byteOffset := 8 }
def fd_34_2 : Field := { name := "Args", type := 23, offset := 2, embedded := false, tag := "", pkgPath := "", byteOffset := 16 }
def fd_34_3 : Field := { name := "Num", type := 2, offset := 3, embedded := false, tag := "", pkgPath := "", byteOffset := 40 }
def fd_34_4 : Field := { name := "Bin", type := 33, offset := 4, embedded := false, tag := "", pkgPath := "", byteOffset := 48 }
def fd_34_5 : Field := { name := "Arr", type := 3, offset := 5, embedded := false, tag := "", pkgPath := "", byteOffset := 56 }
def fd_34_6 : Field := { name := "Fn", type := 3, offset := 6, embedded := false, tag := "", pkgPath := "", byteOffset := 64 }
theorem U_34 : Try.prog.underlying 34 = some (.struct #[fd_34_0, fd_34_1, fd_34_2, fd_34_3, fd_34_4, fd_34_5, fd_34_6]) := by kernel_rfl
theorem TA_35 : TA Try.prog 35 7 := ⟨fun w => by kernel_rfl, fun w => by kernel_rfl⟩
theorem TI_35 : TI Try.prog 35 (.agg #[.int .i64 0, .int .i64 0, .slice none 0 0, .int .i64 0, .int .i64 0, .int .i64 0, .int .i64 0]) 7 72 := TI.of (by kernel_rfl) rfl (by decide) (by decide)
def fd_35_0 : Field := { name := "Op", type := 32, offset := 0, embedded := false, tag := "", pkgPath := "", byteOffset := 0 }
def fd_35_1 : Field := { name := "Dst", type := 3, offset := 1, embedded := false, tag := "", pkgPath := "", byteOffset := 8 }
def fd_35_2 : Field := { name := "Args", type := 23, offset := 2, embedded := false, tag := "", pkgPath := "", byteOffset := 16 }
def fd_35_3 : Field := { name := "Num", type := 2, offset := 3, embedded := false, tag := "", pkgPath := "", byteOffset := 40 }
def fd_35_4 : Field := { name := "Bin", type := 33, offset := 4, embedded := false, tag := "", pkgPath := "", byteOffset := 48 }
def fd_35_5 : Field := { name := "Arr", type := 3, offset := 5, embedded := false, tag := "", pkgPath := "", byteOffset := 56 }
def fd_35_6 : Field := { name := "Fn", type := 3, offset := 6, embedded := false, tag := "", pkgPath := "", byteOffset := 64 }
theorem U_35 : Try.prog.underlying 35 = some (.struct #[fd_35_0, fd_35_1, fd_35_2, fd_35_3, fd_35_4, fd_35_5, fd_35_6]) := by kernel_rfl
theorem T1_36 : T1 Try.prog 36 := ⟨fun w => by kernel_rfl, fun w => by kernel_rfl⟩
theorem TI_36 : TI Try.prog 36 (.slice none 0 0) 1 24 := TI.of (by kernel_rfl) rfl (by decide) (by decide)
theorem U_36 : Try.prog.underlying 36 = some (.slice 31) := by kernel_rfl
theorem TA_37 : TA Try.prog 37 2 := ⟨fun w => by kernel_rfl, fun w => by kernel_rfl⟩
theorem TI_37 : TI Try.prog 37 (.agg #[.string ⟨#[]⟩, .slice none 0 0]) 2 40 := TI.of (by kernel_rfl) rfl (by decide) (by decide)
def fd_37_0 : Field := { name := "Name", type := 9, offset := 0, embedded := false, tag := "", pkgPath := "", byteOffset := 0 }
def fd_37_1 : Field := { name := "Blocks", type := 36, offset := 1, embedded := false, tag := "", pkgPath := "", byteOffset := 16 }
theorem U_37 : Try.prog.underlying 37 = some (.struct #[fd_37_0, fd_37_1]) := by kernel_rfl
theorem TA_38 : TA Try.prog 38 2 := ⟨fun w => by kernel_rfl, fun w => by kernel_rfl⟩
theorem TI_38 : TI Try.prog 38 (.agg #[.string ⟨#[]⟩, .slice none 0 0]) 2 40 := TI.of (by kernel_rfl) rfl (by decide) (by decide)
def fd_38_0 : Field := { name := "Name", type := 9, offset := 0, embedded := false, tag := "", pkgPath := "", byteOffset := 0 }
def fd_38_1 : Field := { name := "Blocks", type := 36, offset := 1, embedded := false, tag := "", pkgPath := "", byteOffset := 16 }
theorem U_38 : Try.prog.underlying 38 = some (.struct #[fd_38_0, fd_38_1]) := by kernel_rfl
theorem T1_39 : T1 Try.prog 39 := ⟨fun w => by kernel_rfl, fun w => by kernel_rfl⟩
theorem TI_39 : TI Try.prog 39 (.map none) 1 8 := TI.of (by kernel_rfl) rfl (by decide) (by decide)
theorem U_39 : Try.prog.underlying 39 = some (.map 3 3) := by kernel_rfl
theorem T1_40 : T1 Try.prog 40 := ⟨fun w => by kernel_rfl, fun w => by kernel_rfl⟩
theorem TI_40 : TI Try.prog 40 (.int .i64 0) 1 8 := TI.of (by kernel_rfl) rfl (by decide) (by decide)
theorem U_40 : Try.prog.underlying 40 = some (.int .i64) := by kernel_rfl
theorem T1_45 : T1 Try.prog 45 := ⟨fun w => by kernel_rfl, fun w => by kernel_rfl⟩
theorem TI_45 : TI Try.prog 45 (.slice none 0 0) 1 24 := TI.of (by kernel_rfl) rfl (by decide) (by decide)
theorem U_45 : Try.prog.underlying 45 = some (.slice 84) := by kernel_rfl
theorem T1_46 : T1 Try.prog 46 := ⟨fun w => by kernel_rfl, fun w => by kernel_rfl⟩
theorem TI_46 : TI Try.prog 46 (.slice none 0 0) 1 24 := TI.of (by kernel_rfl) rfl (by decide) (by decide)
theorem U_46 : Try.prog.underlying 46 = some (.slice 38) := by kernel_rfl
theorem TA_47 : TA Try.prog 47 3 := ⟨fun w => by kernel_rfl, fun w => by kernel_rfl⟩
theorem TI_47 : TI Try.prog 47 (.agg #[.slice none 0 0, .slice none 0 0, .int .i64 0]) 3 56 := TI.of (by kernel_rfl) rfl (by decide) (by decide)
def fd_47_0 : Field := { name := "Arrays", type := 45, offset := 0, embedded := false, tag := "", pkgPath := "", byteOffset := 0 }
def fd_47_1 : Field := { name := "Funcs", type := 46, offset := 1, embedded := false, tag := "", pkgPath := "", byteOffset := 24 }
def fd_47_2 : Field := { name := "Main", type := 3, offset := 2, embedded := false, tag := "", pkgPath := "", byteOffset := 48 }
theorem U_47 : Try.prog.underlying 47 = some (.struct #[fd_47_0, fd_47_1, fd_47_2]) := by kernel_rfl
theorem TA_48 : TA Try.prog 48 3 := ⟨fun w => by kernel_rfl, fun w => by kernel_rfl⟩
theorem TI_48 : TI Try.prog 48 (.agg #[.slice none 0 0, .slice none 0 0, .int .i64 0]) 3 56 := TI.of (by kernel_rfl) rfl (by decide) (by decide)
def fd_48_0 : Field := { name := "Arrays", type := 45, offset := 0, embedded := false, tag := "", pkgPath := "", byteOffset := 0 }
def fd_48_1 : Field := { name := "Funcs", type := 46, offset := 1, embedded := false, tag := "", pkgPath := "", byteOffset := 24 }
def fd_48_2 : Field := { name := "Main", type := 3, offset := 2, embedded := false, tag := "", pkgPath := "", byteOffset := 48 }
theorem U_48 : Try.prog.underlying 48 = some (.struct #[fd_48_0, fd_48_1, fd_48_2]) := by kernel_rfl
theorem T1_50 : T1 Try.prog 50 := ⟨fun w => by kernel_rfl, fun w => by kernel_rfl⟩
theorem TI_50 : TI Try.prog 50 (.slice none 0 0) 1 24 := TI.of (by kernel_rfl) rfl (by decide) (by decide)
theorem U_50 : Try.prog.underlying 50 = some (.slice 58) := by kernel_rfl
theorem TA_51 : TA Try.prog 51 2 := ⟨fun w => by kernel_rfl, fun w => by kernel_rfl⟩
theorem TI_51 : TI Try.prog 51 (.agg #[.slice none 0 0, .slice none 0 0]) 2 48 := TI.of (by kernel_rfl) rfl (by decide) (by decide)
def fd_51_0 : Field := { name := "In", type := 50, offset := 0, embedded := false, tag := "", pkgPath := "", byteOffset := 0 }
def fd_51_1 : Field := { name := "Out", type := 50, offset := 1, embedded := false, tag := "", pkgPath := "", byteOffset := 24 }
theorem U_51 : Try.prog.underlying 51 = some (.struct #[fd_51_0, fd_51_1]) := by kernel_rfl
theorem TA_52 : TA Try.prog 52 2 := ⟨fun w => by kernel_rfl, fun w => by kernel_rfl⟩
theorem TI_52 : TI Try.prog 52 (.agg #[.slice none 0 0, .slice none 0 0]) 2 48 := TI.of (by kernel_rfl) rfl (by decide) (by decide)
def fd_52_0 : Field := { name := "In", type := 50, offset := 0, embedded := false, tag := "", pkgPath := "", byteOffset := 0 }
def fd_52_1 : Field := { name := "Out", type := 50, offset := 1, embedded := false, tag := "", pkgPath := "", byteOffset := 24 }
theorem U_52 : Try.prog.underlying 52 = some (.struct #[fd_52_0, fd_52_1]) := by kernel_rfl
theorem TA_56 : TA Try.prog 56 2 := ⟨fun w => by kernel_rfl, fun w => by kernel_rfl⟩
theorem TI_56 : TI Try.prog 56 (.agg #[.int .i64 0, .slice none 0 0]) 2 32 := TI.of (by kernel_rfl) rfl (by decide) (by decide)
def fd_56_0 : Field := { name := "To", type := 3, offset := 0, embedded := false, tag := "", pkgPath := "", byteOffset := 0 }
def fd_56_1 : Field := { name := "Args", type := 23, offset := 1, embedded := false, tag := "", pkgPath := "", byteOffset := 8 }
theorem U_56 : Try.prog.underlying 56 = some (.struct #[fd_56_0, fd_56_1]) := by kernel_rfl
theorem TA_57 : TA Try.prog 57 2 := ⟨fun w => by kernel_rfl, fun w => by kernel_rfl⟩
theorem TI_57 : TI Try.prog 57 (.agg #[.int .i64 0, .slice none 0 0]) 2 32 := TI.of (by kernel_rfl) rfl (by decide) (by decide)
def fd_57_0 : Field := { name := "To", type := 3, offset := 0, embedded := false, tag := "", pkgPath := "", byteOffset := 0 }
def fd_57_1 : Field := { name := "Args", type := 23, offset := 1, embedded := false, tag := "", pkgPath := "", byteOffset := 8 }
theorem U_57 : Try.prog.underlying 57 = some (.struct #[fd_57_0, fd_57_1]) := by kernel_rfl
theorem T1_58 : T1 Try.prog 58 := ⟨fun w => by kernel_rfl, fun w => by kernel_rfl⟩
theorem TI_58 : TI Try.prog 58 (.map none) 1 8 := TI.of (by kernel_rfl) rfl (by decide) (by decide)
theorem U_58 : Try.prog.underlying 58 = some (.map 3 4) := by kernel_rfl
theorem T1_59 : T1 Try.prog 59 := ⟨fun w => by kernel_rfl, fun w => by kernel_rfl⟩
theorem TI_59 : TI Try.prog 59 (.slice none 0 0) 1 24 := TI.of (by kernel_rfl) rfl (by decide) (by decide)
theorem U_59 : Try.prog.underlying 59 = some (.slice 4) := by kernel_rfl
theorem T1_61 : T1 Try.prog 61 := ⟨fun w => by kernel_rfl, fun w => by kernel_rfl⟩
theorem TI_61 : TI Try.prog 61 (.slice none 0 0) 1 24 := TI.of (by kernel_rfl) rfl (by decide) (by decide)
theorem U_61 : Try.prog.underlying 61 = some (.slice 23) := by kernel_rfl
theorem T1_65 : T1 Try.prog 65 := ⟨fun w => by kernel_rfl, fun w => by kernel_rfl⟩
theorem TI_65 : TI Try.prog 65 (.pointer none) 1 8 := TI.of (by kernel_rfl) rfl (by decide) (by decide)
theorem U_65 : Try.prog.underlying 65 = some (.pointer 67) := by kernel_rfl
theorem TA_66 : TA Try.prog 66 2 := ⟨fun w => by kernel_rfl, fun w => by kernel_rfl⟩
theorem TI_66 : TI Try.prog 66 (.agg #[.map none, .int .i64 0]) 2 16 := TI.of (by kernel_rfl) rfl (by decide) (by decide)
def fd_66_0 : Field := { name := "regs", type := 39, offset := 0, embedded := false, tag := "", pkgPath := "palings/live", byteOffset := 0 }
def fd_66_1 : Field := { name := "most", type := 3, offset := 1, embedded := false, tag := "", pkgPath := "palings/live", byteOffset := 8 }
theorem U_66 : Try.prog.underlying 66 = some (.struct #[fd_66_0, fd_66_1]) := by kernel_rfl
theorem TA_67 : TA Try.prog 67 2 := ⟨fun w => by kernel_rfl, fun w => by kernel_rfl⟩
theorem TI_67 : TI Try.prog 67 (.agg #[.map none, .int .i64 0]) 2 16 := TI.of (by kernel_rfl) rfl (by decide) (by decide)
def fd_67_0 : Field := { name := "regs", type := 39, offset := 0, embedded := false, tag := "", pkgPath := "palings/live", byteOffset := 0 }
def fd_67_1 : Field := { name := "most", type := 3, offset := 1, embedded := false, tag := "", pkgPath := "palings/live", byteOffset := 8 }
theorem U_67 : Try.prog.underlying 67 = some (.struct #[fd_67_0, fd_67_1]) := by kernel_rfl
theorem T1_68 : T1 Try.prog 68 := ⟨fun w => by kernel_rfl, fun w => by kernel_rfl⟩
theorem TI_68 : TI Try.prog 68 (.pointer none) 1 8 := TI.of (by kernel_rfl) rfl (by decide) (by decide)
theorem U_68 : Try.prog.underlying 68 = some (.pointer 78) := by kernel_rfl
theorem TA_77 : TA Try.prog 77 3 := ⟨fun w => by kernel_rfl, fun w => by kernel_rfl⟩
theorem TI_77 : TI Try.prog 77 (.agg #[.slice none 0 0, .slice none 0 0, .slice none 0 0]) 3 72 := TI.of (by kernel_rfl) rfl (by decide) (by decide)
def fd_77_0 : Field := { name := "outs", type := 61, offset := 0, embedded := false, tag := "", pkgPath := "palings/flow", byteOffset := 0 }
def fd_77_1 : Field := { name := "ins", type := 61, offset := 1, embedded := false, tag := "", pkgPath := "palings/flow", byteOffset := 24 }
def fd_77_2 : Field := { name := "reach", type := 59, offset := 2, embedded := false, tag := "", pkgPath := "palings/flow", byteOffset := 48 }
theorem U_77 : Try.prog.underlying 77 = some (.struct #[fd_77_0, fd_77_1, fd_77_2]) := by kernel_rfl
theorem TA_78 : TA Try.prog 78 3 := ⟨fun w => by kernel_rfl, fun w => by kernel_rfl⟩
theorem TI_78 : TI Try.prog 78 (.agg #[.slice none 0 0, .slice none 0 0, .slice none 0 0]) 3 72 := TI.of (by kernel_rfl) rfl (by decide) (by decide)
def fd_78_0 : Field := { name := "outs", type := 61, offset := 0, embedded := false, tag := "", pkgPath := "palings/flow", byteOffset := 0 }
def fd_78_1 : Field := { name := "ins", type := 61, offset := 1, embedded := false, tag := "", pkgPath := "palings/flow", byteOffset := 24 }
def fd_78_2 : Field := { name := "reach", type := 59, offset := 2, embedded := false, tag := "", pkgPath := "palings/flow", byteOffset := 48 }
theorem U_78 : Try.prog.underlying 78 = some (.struct #[fd_78_0, fd_78_1, fd_78_2]) := by kernel_rfl
theorem T1_82 : T1 Try.prog 82 := ⟨fun w => by kernel_rfl, fun w => by kernel_rfl⟩
theorem TI_82 : TI Try.prog 82 (.int .i64 0) 1 8 := TI.of (by kernel_rfl) rfl (by decide) (by decide)
theorem U_82 : Try.prog.underlying 82 = some (.int .i64) := by kernel_rfl
theorem TA_83 : TA Try.prog 83 3 := ⟨fun w => by kernel_rfl, fun w => by kernel_rfl⟩
theorem TI_83 : TI Try.prog 83 (.agg #[.string ⟨#[]⟩, .int .i64 0, .int .i64 0]) 3 32 := TI.of (by kernel_rfl) rfl (by decide) (by decide)
def fd_83_0 : Field := { name := "Name", type := 9, offset := 0, embedded := false, tag := "", pkgPath := "", byteOffset := 0 }
def fd_83_1 : Field := { name := "Hold", type := 82, offset := 1, embedded := false, tag := "", pkgPath := "", byteOffset := 16 }
def fd_83_2 : Field := { name := "Size", type := 3, offset := 2, embedded := false, tag := "", pkgPath := "", byteOffset := 24 }
theorem U_83 : Try.prog.underlying 83 = some (.struct #[fd_83_0, fd_83_1, fd_83_2]) := by kernel_rfl
theorem TA_84 : TA Try.prog 84 3 := ⟨fun w => by kernel_rfl, fun w => by kernel_rfl⟩
theorem TI_84 : TI Try.prog 84 (.agg #[.string ⟨#[]⟩, .int .i64 0, .int .i64 0]) 3 32 := TI.of (by kernel_rfl) rfl (by decide) (by decide)
def fd_84_0 : Field := { name := "Name", type := 9, offset := 0, embedded := false, tag := "", pkgPath := "", byteOffset := 0 }
def fd_84_1 : Field := { name := "Hold", type := 82, offset := 1, embedded := false, tag := "", pkgPath := "", byteOffset := 16 }
def fd_84_2 : Field := { name := "Size", type := 3, offset := 2, embedded := false, tag := "", pkgPath := "", byteOffset := 24 }
theorem U_84 : Try.prog.underlying 84 = some (.struct #[fd_84_0, fd_84_1, fd_84_2]) := by kernel_rfl
theorem TA_91 : TA Try.prog 91 64 := ⟨fun w => by kernel_rfl, fun w => by kernel_rfl⟩
theorem TI_91 : TI Try.prog 91 (.agg #[.bool false, .bool false, .bool false, .bool false, .bool false, .bool false, .bool false, .bool false, .bool false, .bool false, .bool false, .bool false, .bool false, .bool false, .bool false, .bool false, .bool false, .bool false, .bool false, .bool false, .bool false, .bool false, .bool false, .bool false, .bool false, .bool false, .bool false, .bool false, .bool false, .bool false, .bool false, .bool false, .bool false, .bool false, .bool false, .bool false, .bool false, .bool false, .bool false, .bool false, .bool false, .bool false, .bool false, .bool false, .bool false, .bool false, .bool false, .bool false, .bool false, .bool false, .bool false, .bool false, .bool false, .bool false, .bool false, .bool false, .bool false, .bool false, .bool false, .bool false, .bool false, .bool false, .bool false, .bool false]) 64 64 := TI.of (by kernel_rfl) rfl (by decide) (by decide)
theorem U_91 : Try.prog.underlying 91 = some (.array 64 4) := by kernel_rfl
theorem T1_93 : T1 Try.prog 93 := ⟨fun w => by kernel_rfl, fun w => by kernel_rfl⟩
theorem TI_93 : TI Try.prog 93 (.map none) 1 8 := TI.of (by kernel_rfl) rfl (by decide) (by decide)
theorem U_93 : Try.prog.underlying 93 = some (.map 25 3) := by kernel_rfl
theorem T1_107 : T1 Try.prog 107 := ⟨fun w => by kernel_rfl, fun w => by kernel_rfl⟩
theorem TI_107 : TI Try.prog 107 (.int .u32 0) 1 4 := TI.of (by kernel_rfl) rfl (by decide) (by decide)
theorem U_107 : Try.prog.underlying 107 = some (.int .u32) := by kernel_rfl
theorem T1_111 : T1 Try.prog 111 := ⟨fun w => by kernel_rfl, fun w => by kernel_rfl⟩
theorem TI_111 : TI Try.prog 111 (.pointer none) 1 8 := TI.of (by kernel_rfl) rfl (by decide) (by decide)
theorem U_111 : Try.prog.underlying 111 = some (.pointer 5) := by kernel_rfl
theorem F_3 : IsF Try.prog 3 Try.f3 := ⟨Try.func3, rfl, by decide⟩
theorem F_4 : IsF Try.prog 4 Try.f4 := ⟨Try.func4, rfl, by decide⟩
theorem F_5 : IsF Try.prog 5 Try.f5 := ⟨Try.func5, rfl, by decide⟩
theorem F_6 : IsF Try.prog 6 Try.f6 := ⟨Try.func6, rfl, by decide⟩
theorem F_7 : IsF Try.prog 7 Try.f7 := ⟨Try.func7, rfl, by decide⟩
theorem F_8 : IsF Try.prog 8 Try.f8 := ⟨Try.func8, rfl, by decide⟩
theorem F_9 : IsF Try.prog 9 Try.f9 := ⟨Try.func9, rfl, by decide⟩
theorem F_10 : IsF Try.prog 10 Try.f10 := ⟨Try.func10, rfl, by decide⟩
theorem F_11 : IsF Try.prog 11 Try.f11 := ⟨Try.func11, rfl, by decide⟩
theorem F_12 : IsF Try.prog 12 Try.f12 := ⟨Try.func12, rfl, by decide⟩
theorem F_13 : IsF Try.prog 13 Try.f13 := ⟨Try.func13, rfl, by decide⟩
theorem F_14 : IsF Try.prog 14 Try.f14 := ⟨Try.func14, rfl, by decide⟩
theorem F_15 : IsF Try.prog 15 Try.f15 := ⟨Try.func15, rfl, by decide⟩
theorem F_16 : IsF Try.prog 16 Try.f16 := ⟨Try.func16, rfl, by decide⟩
theorem F_17 : IsF Try.prog 17 Try.f17 := ⟨Try.func17, rfl, by decide⟩
theorem F_18 : IsF Try.prog 18 Try.f18 := ⟨Try.func18, rfl, by decide⟩
theorem F_19 : IsF Try.prog 19 Try.f19 := ⟨Try.func19, rfl, by decide⟩
theorem F_20 : IsF Try.prog 20 Try.f20 := ⟨Try.func20, rfl, by decide⟩
theorem F_21 : IsF Try.prog 21 Try.f21 := ⟨Try.func21, rfl, by decide⟩
theorem F_22 : IsF Try.prog 22 Try.f22 := ⟨Try.func22, rfl, by decide⟩
theorem F_23 : IsF Try.prog 23 Try.f23 := ⟨Try.func23, rfl, by decide⟩
theorem F_24 : IsF Try.prog 24 Try.f24 := ⟨Try.func24, rfl, by decide⟩
theorem F_25 : IsF Try.prog 25 Try.f25 := ⟨Try.func25, rfl, by decide⟩
theorem F_26 : IsF Try.prog 26 Try.f26 := ⟨Try.func26, rfl, by decide⟩
theorem F_27 : IsF Try.prog 27 Try.f27 := ⟨Try.func27, rfl, by decide⟩
theorem F_28 : IsF Try.prog 28 Try.f28 := ⟨Try.func28, rfl, by decide⟩
theorem F_29 : IsF Try.prog 29 Try.f29 := ⟨Try.func29, rfl, by decide⟩
theorem F_30 : IsF Try.prog 30 Try.f30 := ⟨Try.func30, rfl, by decide⟩
theorem F_31 : IsF Try.prog 31 Try.f31 := ⟨Try.func31, rfl, by decide⟩
theorem F_32 : IsF Try.prog 32 Try.f32 := ⟨Try.func32, rfl, by decide⟩
theorem F_33 : IsF Try.prog 33 Try.f33 := ⟨Try.func33, rfl, by decide⟩
theorem F_34 : IsF Try.prog 34 Try.f34 := ⟨Try.func34, rfl, by decide⟩
theorem F_35 : IsF Try.prog 35 Try.f35 := ⟨Try.func35, rfl, by decide⟩
theorem F_36 : IsF Try.prog 36 Try.f36 := ⟨Try.func36, rfl, by decide⟩
theorem F_37 : IsF Try.prog 37 Try.f37 := ⟨Try.func37, rfl, by decide⟩
theorem F_38 : IsF Try.prog 38 Try.f38 := ⟨Try.func38, rfl, by decide⟩
theorem F_39 : IsF Try.prog 39 Try.f39 := ⟨Try.func39, rfl, by decide⟩
theorem F_40 : IsF Try.prog 40 Try.f40 := ⟨Try.func40, rfl, by decide⟩
theorem F_41 : IsF Try.prog 41 Try.f41 := ⟨Try.func41, rfl, by decide⟩
theorem F_42 : IsF Try.prog 42 Try.f42 := ⟨Try.func42, rfl, by decide⟩
theorem F_43 : IsF Try.prog 43 Try.f43 := ⟨Try.func43, rfl, by decide⟩
theorem F_44 : IsF Try.prog 44 Try.f44 := ⟨Try.func44, rfl, by decide⟩
theorem F_45 : IsF Try.prog 45 Try.f45 := ⟨Try.func45, rfl, by decide⟩
theorem F_46 : IsF Try.prog 46 Try.f46 := ⟨Try.func46, rfl, by decide⟩
theorem F_47 : IsF Try.prog 47 Try.f47 := ⟨Try.func47, rfl, by decide⟩
theorem F_48 : IsF Try.prog 48 Try.f48 := ⟨Try.func48, rfl, by decide⟩
end Go.Proofs.Ytfplmdjlgjgbgaa
