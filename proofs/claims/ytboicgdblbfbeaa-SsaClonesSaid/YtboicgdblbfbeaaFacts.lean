/- The facts of this program's types and functions (written by a program). -/
import Derived.Test.YtboicgdblbfbeaaK6
import Derived.Test.YtboicgdblbfbeaaProg
import Derived.KernelRfl
namespace Go.Proofs.Ytboicgdblbfbeaa
set_option linter.unusedVariables false
set_option linter.unusedSimpArgs false
open Go Go.RowKit

theorem T1_2 : T1 Try.prog 2 := ⟨fun w => by kernel_rfl, fun w => by kernel_rfl⟩
theorem TI_2 : TI Try.prog 2 (.int .i64 0) 1 8 := TI.of (by kernel_rfl) rfl (by decide) (by decide)
theorem U_2 : Try.prog.underlying 2 = some (.int .i64) := by kernel_rfl
theorem T1_3 : T1 Try.prog 3 := ⟨fun w => by kernel_rfl, fun w => by kernel_rfl⟩
theorem TI_3 : TI Try.prog 3 (.int .i64 0) 1 8 := TI.of (by kernel_rfl) rfl (by decide) (by decide)
theorem U_3 : Try.prog.underlying 3 = some (.int .i64) := by kernel_rfl
theorem T1_4 : T1 Try.prog 4 := ⟨fun w => by kernel_rfl, fun w => by kernel_rfl⟩
theorem TI_4 : TI Try.prog 4 (.bool false) 1 1 := TI.of (by kernel_rfl) rfl (by decide) (by decide)
theorem U_4 : Try.prog.underlying 4 = some .bool := by kernel_rfl
theorem T1_5 : T1 Try.prog 5 := ⟨fun w => by kernel_rfl, fun w => by kernel_rfl⟩
theorem TI_5 : TI Try.prog 5 (.int .u8 0) 1 1 := TI.of (by kernel_rfl) rfl (by decide) (by decide)
theorem U_5 : Try.prog.underlying 5 = some (.int .u8) := by kernel_rfl
theorem T1_9 : T1 Try.prog 9 := ⟨fun w => by kernel_rfl, fun w => by kernel_rfl⟩
theorem TI_9 : TI Try.prog 9 (.string ⟨#[]⟩) 1 16 := TI.of (by kernel_rfl) rfl (by decide) (by decide)
theorem U_9 : Try.prog.underlying 9 = some .string := by kernel_rfl
theorem T1_12 : T1 Try.prog 12 := ⟨fun w => by kernel_rfl, fun w => by kernel_rfl⟩
theorem TI_12 : TI Try.prog 12 (.int .u64 0) 1 8 := TI.of (by kernel_rfl) rfl (by decide) (by decide)
theorem U_12 : Try.prog.underlying 12 = some (.int .u64) := by kernel_rfl
theorem TA_13 : TA Try.prog 13 2 := ⟨fun w => by kernel_rfl, fun w => by kernel_rfl⟩
theorem TI_13 : TI Try.prog 13 (.agg #[.string ⟨#[]⟩, .int .u64 0]) 2 24 := TI.of (by kernel_rfl) rfl (by decide) (by decide)
def fd_13_0 : Field := { name := "msg", type := 9, offset := 0, embedded := false, tag := "", pkgPath := "runtime", byteOffset := 0 }
def fd_13_1 : Field := { name := "addr", type := 12, offset := 1, embedded := false, tag := "", pkgPath := "runtime", byteOffset := 16 }
theorem U_13 : Try.prog.underlying 13 = some (.struct #[fd_13_0, fd_13_1]) := by kernel_rfl
theorem T1_21 : T1 Try.prog 21 := ⟨fun w => by kernel_rfl, fun w => by kernel_rfl⟩
theorem TI_21 : TI Try.prog 21 (.int .i32 0) 1 4 := TI.of (by kernel_rfl) rfl (by decide) (by decide)
theorem U_21 : Try.prog.underlying 21 = some (.int .i32) := by kernel_rfl
theorem T1_23 : T1 Try.prog 23 := ⟨fun w => by kernel_rfl, fun w => by kernel_rfl⟩
theorem TI_23 : TI Try.prog 23 (.slice none 0 0) 1 24 := TI.of (by kernel_rfl) rfl (by decide) (by decide)
theorem U_23 : Try.prog.underlying 23 = some (.slice 29) := by kernel_rfl
theorem T1_24 : T1 Try.prog 24 := ⟨fun w => by kernel_rfl, fun w => by kernel_rfl⟩
theorem TI_24 : TI Try.prog 24 (.slice none 0 0) 1 24 := TI.of (by kernel_rfl) rfl (by decide) (by decide)
theorem U_24 : Try.prog.underlying 24 = some (.slice 47) := by kernel_rfl
theorem TA_25 : TA Try.prog 25 3 := ⟨fun w => by kernel_rfl, fun w => by kernel_rfl⟩
theorem TI_25 : TI Try.prog 25 (.agg #[.slice none 0 0, .slice none 0 0, .int .i64 0]) 3 56 := TI.of (by kernel_rfl) rfl (by decide) (by decide)
def fd_25_0 : Field := { name := "Arrays", type := 23, offset := 0, embedded := false, tag := "", pkgPath := "", byteOffset := 0 }
def fd_25_1 : Field := { name := "Funcs", type := 24, offset := 1, embedded := false, tag := "", pkgPath := "", byteOffset := 24 }
def fd_25_2 : Field := { name := "Main", type := 3, offset := 2, embedded := false, tag := "", pkgPath := "", byteOffset := 48 }
theorem U_25 : Try.prog.underlying 25 = some (.struct #[fd_25_0, fd_25_1, fd_25_2]) := by kernel_rfl
theorem TA_26 : TA Try.prog 26 3 := ⟨fun w => by kernel_rfl, fun w => by kernel_rfl⟩
theorem TI_26 : TI Try.prog 26 (.agg #[.slice none 0 0, .slice none 0 0, .int .i64 0]) 3 56 := TI.of (by kernel_rfl) rfl (by decide) (by decide)
def fd_26_0 : Field := { name := "Arrays", type := 23, offset := 0, embedded := false, tag := "", pkgPath := "", byteOffset := 0 }
def fd_26_1 : Field := { name := "Funcs", type := 24, offset := 1, embedded := false, tag := "", pkgPath := "", byteOffset := 24 }
def fd_26_2 : Field := { name := "Main", type := 3, offset := 2, embedded := false, tag := "", pkgPath := "", byteOffset := 48 }
theorem U_26 : Try.prog.underlying 26 = some (.struct #[fd_26_0, fd_26_1, fd_26_2]) := by kernel_rfl
theorem T1_27 : T1 Try.prog 27 := ⟨fun w => by kernel_rfl, fun w => by kernel_rfl⟩
theorem TI_27 : TI Try.prog 27 (.int .i64 0) 1 8 := TI.of (by kernel_rfl) rfl (by decide) (by decide)
theorem U_27 : Try.prog.underlying 27 = some (.int .i64) := by kernel_rfl
theorem TA_28 : TA Try.prog 28 3 := ⟨fun w => by kernel_rfl, fun w => by kernel_rfl⟩
theorem TI_28 : TI Try.prog 28 (.agg #[.string ⟨#[]⟩, .int .i64 0, .int .i64 0]) 3 32 := TI.of (by kernel_rfl) rfl (by decide) (by decide)
def fd_28_0 : Field := { name := "Name", type := 9, offset := 0, embedded := false, tag := "", pkgPath := "", byteOffset := 0 }
def fd_28_1 : Field := { name := "Hold", type := 27, offset := 1, embedded := false, tag := "", pkgPath := "", byteOffset := 16 }
def fd_28_2 : Field := { name := "Size", type := 3, offset := 2, embedded := false, tag := "", pkgPath := "", byteOffset := 24 }
theorem U_28 : Try.prog.underlying 28 = some (.struct #[fd_28_0, fd_28_1, fd_28_2]) := by kernel_rfl
theorem TA_29 : TA Try.prog 29 3 := ⟨fun w => by kernel_rfl, fun w => by kernel_rfl⟩
theorem TI_29 : TI Try.prog 29 (.agg #[.string ⟨#[]⟩, .int .i64 0, .int .i64 0]) 3 32 := TI.of (by kernel_rfl) rfl (by decide) (by decide)
def fd_29_0 : Field := { name := "Name", type := 9, offset := 0, embedded := false, tag := "", pkgPath := "", byteOffset := 0 }
def fd_29_1 : Field := { name := "Hold", type := 27, offset := 1, embedded := false, tag := "", pkgPath := "", byteOffset := 16 }
def fd_29_2 : Field := { name := "Size", type := 3, offset := 2, embedded := false, tag := "", pkgPath := "", byteOffset := 24 }
theorem U_29 : Try.prog.underlying 29 = some (.struct #[fd_29_0, fd_29_1, fd_29_2]) := by kernel_rfl
theorem T1_30 : T1 Try.prog 30 := ⟨fun w => by kernel_rfl, fun w => by kernel_rfl⟩
theorem TI_30 : TI Try.prog 30 (.int .i64 0) 1 8 := TI.of (by kernel_rfl) rfl (by decide) (by decide)
theorem U_30 : Try.prog.underlying 30 = some (.int .i64) := by kernel_rfl
theorem T1_31 : T1 Try.prog 31 := ⟨fun w => by kernel_rfl, fun w => by kernel_rfl⟩
theorem TI_31 : TI Try.prog 31 (.slice none 0 0) 1 24 := TI.of (by kernel_rfl) rfl (by decide) (by decide)
theorem U_31 : Try.prog.underlying 31 = some (.slice 3) := by kernel_rfl
theorem T1_32 : T1 Try.prog 32 := ⟨fun w => by kernel_rfl, fun w => by kernel_rfl⟩
theorem TI_32 : TI Try.prog 32 (.int .i64 0) 1 8 := TI.of (by kernel_rfl) rfl (by decide) (by decide)
theorem U_32 : Try.prog.underlying 32 = some (.int .i64) := by kernel_rfl
theorem TA_33 : TA Try.prog 33 7 := ⟨fun w => by kernel_rfl, fun w => by kernel_rfl⟩
theorem TI_33 : TI Try.prog 33 (.agg #[.int .i64 0, .int .i64 0, .slice none 0 0, .int .i64 0, .int .i64 0, .int .i64 0, .int .i64 0]) 7 72 := TI.of (by kernel_rfl) rfl (by decide) (by decide)
def fd_33_0 : Field := { name := "Op", type := 30, offset := 0, embedded := false, tag := "", pkgPath := "", byteOffset := 0 }
def fd_33_1 : Field := { name := "Dst", type := 3, offset := 1, embedded := false, tag := "", pkgPath := "", byteOffset := 8 }
def fd_33_2 : Field := { name := "Args", type := 31, offset := 2, embedded := false, tag := "", pkgPath := "", byteOffset := 16 }
def fd_33_3 : Field := { name := "Num", type := 2, offset := 3, embedded := false, tag := "", pkgPath := "", byteOffset := 40 }
def fd_33_4 : Field := { name := "Bin", type := 32, offset := 4, embedded := false, tag := "", pkgPath := "", byteOffset := 48 }
def fd_33_5 : Field := { name := "Arr", type := 3, offset := 5, embedded := false, tag := "", pkgPath := "", byteOffset := 56 }
def fd_33_6 : Field := { name := "Fn", type := 3, offset := 6, embedded := false, tag := "", pkgPath := "", byteOffset := 64 }
theorem U_33 : Try.prog.underlying 33 = some (.struct #[fd_33_0, fd_33_1, fd_33_2, fd_33_3, fd_33_4, fd_33_5, fd_33_6]) := by kernel_rfl
theorem TA_34 : TA Try.prog 34 7 := ⟨fun w => by kernel_rfl, fun w => by kernel_rfl⟩
theorem TI_34 : TI Try.prog 34 (.agg #[.int .i64 0, .int .i64 0, .slice none 0 0, .int .i64 0, .int .i64 0, .int .i64 0, .int .i64 0]) 7 72 := TI.of (by kernel_rfl) rfl (by decide) (by decide)
def fd_34_0 : Field := { name := "Op", type := 30, offset := 0, embedded := false, tag := "", pkgPath := "", byteOffset := 0 }
def fd_34_1 : Field := { name := "Dst", type := 3, offset := 1, embedded := false, tag := "", pkgPath := "", byteOffset := 8 }
def fd_34_2 : Field := { name := "Args", type := 31, offset := 2, embedded := false, tag := "", pkgPath := "", byteOffset := 16 }
def fd_34_3 : Field := { name := "Num", type := 2, offset := 3, embedded := false, tag := "", pkgPath := "", byteOffset := 40 }
def fd_34_4 : Field := { name := "Bin", type := 32, offset := 4, embedded := false, tag := "", pkgPath := "", byteOffset := 48 }
def fd_34_5 : Field := { name := "Arr", type := 3, offset := 5, embedded := false, tag := "", pkgPath := "", byteOffset := 56 }
def fd_34_6 : Field := { name := "Fn", type := 3, offset := 6, embedded := false, tag := "", pkgPath := "", byteOffset := 64 }
theorem U_34 : Try.prog.underlying 34 = some (.struct #[fd_34_0, fd_34_1, fd_34_2, fd_34_3, fd_34_4, fd_34_5, fd_34_6]) := by kernel_rfl
theorem T1_35 : T1 Try.prog 35 := ⟨fun w => by kernel_rfl, fun w => by kernel_rfl⟩
theorem TI_35 : TI Try.prog 35 (.slice none 0 0) 1 24 := TI.of (by kernel_rfl) rfl (by decide) (by decide)
theorem U_35 : Try.prog.underlying 35 = some (.slice 34) := by kernel_rfl
theorem T1_36 : T1 Try.prog 36 := ⟨fun w => by kernel_rfl, fun w => by kernel_rfl⟩
theorem TI_36 : TI Try.prog 36 (.int .i64 0) 1 8 := TI.of (by kernel_rfl) rfl (by decide) (by decide)
theorem U_36 : Try.prog.underlying 36 = some (.int .i64) := by kernel_rfl
theorem TA_37 : TA Try.prog 37 2 := ⟨fun w => by kernel_rfl, fun w => by kernel_rfl⟩
theorem TI_37 : TI Try.prog 37 (.agg #[.int .i64 0, .slice none 0 0]) 2 32 := TI.of (by kernel_rfl) rfl (by decide) (by decide)
def fd_37_0 : Field := { name := "To", type := 3, offset := 0, embedded := false, tag := "", pkgPath := "", byteOffset := 0 }
def fd_37_1 : Field := { name := "Args", type := 31, offset := 1, embedded := false, tag := "", pkgPath := "", byteOffset := 8 }
theorem U_37 : Try.prog.underlying 37 = some (.struct #[fd_37_0, fd_37_1]) := by kernel_rfl
theorem TA_38 : TA Try.prog 38 2 := ⟨fun w => by kernel_rfl, fun w => by kernel_rfl⟩
theorem TI_38 : TI Try.prog 38 (.agg #[.int .i64 0, .slice none 0 0]) 2 32 := TI.of (by kernel_rfl) rfl (by decide) (by decide)
def fd_38_0 : Field := { name := "To", type := 3, offset := 0, embedded := false, tag := "", pkgPath := "", byteOffset := 0 }
def fd_38_1 : Field := { name := "Args", type := 31, offset := 1, embedded := false, tag := "", pkgPath := "", byteOffset := 8 }
theorem U_38 : Try.prog.underlying 38 = some (.struct #[fd_38_0, fd_38_1]) := by kernel_rfl
theorem T1_39 : T1 Try.prog 39 := ⟨fun w => by kernel_rfl, fun w => by kernel_rfl⟩
theorem TI_39 : TI Try.prog 39 (.slice none 0 0) 1 24 := TI.of (by kernel_rfl) rfl (by decide) (by decide)
theorem U_39 : Try.prog.underlying 39 = some (.slice 38) := by kernel_rfl
theorem T1_40 : T1 Try.prog 40 := ⟨fun w => by kernel_rfl, fun w => by kernel_rfl⟩
theorem TI_40 : TI Try.prog 40 (.int .i64 0) 1 8 := TI.of (by kernel_rfl) rfl (by decide) (by decide)
theorem U_40 : Try.prog.underlying 40 = some (.int .i64) := by kernel_rfl
theorem TA_41 : TA Try.prog 41 4 := ⟨fun w => by kernel_rfl, fun w => by kernel_rfl⟩
theorem TI_41 : TI Try.prog 41 (.agg #[.int .i64 0, .int .i64 0, .slice none 0 0, .int .i64 0]) 4 48 := TI.of (by kernel_rfl) rfl (by decide) (by decide)
def fd_41_0 : Field := { name := "Kind", type := 36, offset := 0, embedded := false, tag := "", pkgPath := "", byteOffset := 0 }
def fd_41_1 : Field := { name := "Val", type := 3, offset := 1, embedded := false, tag := "", pkgPath := "", byteOffset := 8 }
def fd_41_2 : Field := { name := "Ways", type := 39, offset := 2, embedded := false, tag := "", pkgPath := "", byteOffset := 16 }
def fd_41_3 : Field := { name := "Trap", type := 40, offset := 3, embedded := false, tag := "", pkgPath := "", byteOffset := 40 }
theorem U_41 : Try.prog.underlying 41 = some (.struct #[fd_41_0, fd_41_1, fd_41_2, fd_41_3]) := by kernel_rfl
theorem TA_42 : TA Try.prog 42 4 := ⟨fun w => by kernel_rfl, fun w => by kernel_rfl⟩
theorem TI_42 : TI Try.prog 42 (.agg #[.int .i64 0, .int .i64 0, .slice none 0 0, .int .i64 0]) 4 48 := TI.of (by kernel_rfl) rfl (by decide) (by decide)
def fd_42_0 : Field := { name := "Kind", type := 36, offset := 0, embedded := false, tag := "", pkgPath := "", byteOffset := 0 }
def fd_42_1 : Field := { name := "Val", type := 3, offset := 1, embedded := false, tag := "", pkgPath := "", byteOffset := 8 }
def fd_42_2 : Field := { name := "Ways", type := 39, offset := 2, embedded := false, tag := "", pkgPath := "", byteOffset := 16 }
def fd_42_3 : Field := { name := "Trap", type := 40, offset := 3, embedded := false, tag := "", pkgPath := "", byteOffset := 40 }
theorem U_42 : Try.prog.underlying 42 = some (.struct #[fd_42_0, fd_42_1, fd_42_2, fd_42_3]) := by kernel_rfl
theorem TA_43 : TA Try.prog 43 6 := ⟨fun w => by kernel_rfl, fun w => by kernel_rfl⟩
theorem TI_43 : TI Try.prog 43 (.agg #[.slice none 0 0, .slice none 0 0, .int .i64 0, .int .i64 0, .slice none 0 0, .int .i64 0]) 6 96 := TI.of (by kernel_rfl) rfl (by decide) (by decide)
def fd_43_0 : Field := { name := "Params", type := 31, offset := 0, embedded := false, tag := "", pkgPath := "", byteOffset := 0 }
def fd_43_1 : Field := { name := "Ins", type := 35, offset := 1, embedded := false, tag := "", pkgPath := "", byteOffset := 24 }
def fd_43_2 : Field := { name := "End", type := 42, offset := 2, embedded := false, tag := "", pkgPath := "", byteOffset := 48 }
theorem U_43 : Try.prog.underlying 43 = some (.struct #[fd_43_0, fd_43_1, fd_43_2]) := by kernel_rfl
theorem TA_44 : TA Try.prog 44 6 := ⟨fun w => by kernel_rfl, fun w => by kernel_rfl⟩
theorem TI_44 : TI Try.prog 44 (.agg #[.slice none 0 0, .slice none 0 0, .int .i64 0, .int .i64 0, .slice none 0 0, .int .i64 0]) 6 96 := TI.of (by kernel_rfl) rfl (by decide) (by decide)
def fd_44_0 : Field := { name := "Params", type := 31, offset := 0, embedded := false, tag := "", pkgPath := "", byteOffset := 0 }
def fd_44_1 : Field := { name := "Ins", type := 35, offset := 1, embedded := false, tag := "", pkgPath := "", byteOffset := 24 }
def fd_44_2 : Field := { name := "End", type := 42, offset := 2, embedded := false, tag := "", pkgPath := "", byteOffset := 48 }
theorem U_44 : Try.prog.underlying 44 = some (.struct #[fd_44_0, fd_44_1, fd_44_2]) := by kernel_rfl
theorem T1_45 : T1 Try.prog 45 := ⟨fun w => by kernel_rfl, fun w => by kernel_rfl⟩
theorem TI_45 : TI Try.prog 45 (.slice none 0 0) 1 24 := TI.of (by kernel_rfl) rfl (by decide) (by decide)
theorem U_45 : Try.prog.underlying 45 = some (.slice 44) := by kernel_rfl
theorem TA_46 : TA Try.prog 46 2 := ⟨fun w => by kernel_rfl, fun w => by kernel_rfl⟩
theorem TI_46 : TI Try.prog 46 (.agg #[.string ⟨#[]⟩, .slice none 0 0]) 2 40 := TI.of (by kernel_rfl) rfl (by decide) (by decide)
def fd_46_0 : Field := { name := "Name", type := 9, offset := 0, embedded := false, tag := "", pkgPath := "", byteOffset := 0 }
def fd_46_1 : Field := { name := "Blocks", type := 45, offset := 1, embedded := false, tag := "", pkgPath := "", byteOffset := 16 }
theorem U_46 : Try.prog.underlying 46 = some (.struct #[fd_46_0, fd_46_1]) := by kernel_rfl
theorem TA_47 : TA Try.prog 47 2 := ⟨fun w => by kernel_rfl, fun w => by kernel_rfl⟩
theorem TI_47 : TI Try.prog 47 (.agg #[.string ⟨#[]⟩, .slice none 0 0]) 2 40 := TI.of (by kernel_rfl) rfl (by decide) (by decide)
def fd_47_0 : Field := { name := "Name", type := 9, offset := 0, embedded := false, tag := "", pkgPath := "", byteOffset := 0 }
def fd_47_1 : Field := { name := "Blocks", type := 45, offset := 1, embedded := false, tag := "", pkgPath := "", byteOffset := 16 }
theorem U_47 : Try.prog.underlying 47 = some (.struct #[fd_47_0, fd_47_1]) := by kernel_rfl
theorem T1_49 : T1 Try.prog 49 := ⟨fun w => by kernel_rfl, fun w => by kernel_rfl⟩
theorem TI_49 : TI Try.prog 49 (.int .i64 0) 1 8 := TI.of (by kernel_rfl) rfl (by decide) (by decide)
theorem U_49 : Try.prog.underlying 49 = some (.int .i64) := by kernel_rfl
theorem T1_51 : T1 Try.prog 51 := ⟨fun w => by kernel_rfl, fun w => by kernel_rfl⟩
theorem TI_51 : TI Try.prog 51 (.int .u64 0) 1 8 := TI.of (by kernel_rfl) rfl (by decide) (by decide)
theorem U_51 : Try.prog.underlying 51 = some (.int .u64) := by kernel_rfl
theorem T1_61 : T1 Try.prog 61 := ⟨fun w => by kernel_rfl, fun w => by kernel_rfl⟩
theorem TI_61 : TI Try.prog 61 (.slice none 0 0) 1 24 := TI.of (by kernel_rfl) rfl (by decide) (by decide)
theorem U_61 : Try.prog.underlying 61 = some (.slice 63) := by kernel_rfl
theorem T1_63 : T1 Try.prog 63 := ⟨fun w => by kernel_rfl, fun w => by kernel_rfl⟩
theorem TI_63 : TI Try.prog 63 (.map none) 1 8 := TI.of (by kernel_rfl) rfl (by decide) (by decide)
theorem U_63 : Try.prog.underlying 63 = some (.map 3 4) := by kernel_rfl
theorem T1_69 : T1 Try.prog 69 := ⟨fun w => by kernel_rfl, fun w => by kernel_rfl⟩
theorem TI_69 : TI Try.prog 69 (.map none) 1 8 := TI.of (by kernel_rfl) rfl (by decide) (by decide)
theorem U_69 : Try.prog.underlying 69 = some (.map 36 3) := by kernel_rfl
theorem T1_73 : T1 Try.prog 73 := ⟨fun w => by kernel_rfl, fun w => by kernel_rfl⟩
theorem TI_73 : TI Try.prog 73 (.slice none 0 0) 1 24 := TI.of (by kernel_rfl) rfl (by decide) (by decide)
theorem U_73 : Try.prog.underlying 73 = some (.slice 4) := by kernel_rfl
theorem T1_90 : T1 Try.prog 90 := ⟨fun w => by kernel_rfl, fun w => by kernel_rfl⟩
theorem TI_90 : TI Try.prog 90 (.int .u32 0) 1 4 := TI.of (by kernel_rfl) rfl (by decide) (by decide)
theorem U_90 : Try.prog.underlying 90 = some (.int .u32) := by kernel_rfl
theorem T1_94 : T1 Try.prog 94 := ⟨fun w => by kernel_rfl, fun w => by kernel_rfl⟩
theorem TI_94 : TI Try.prog 94 (.pointer none) 1 8 := TI.of (by kernel_rfl) rfl (by decide) (by decide)
theorem U_94 : Try.prog.underlying 94 = some (.pointer 5) := by kernel_rfl
theorem F_3 : IsF Try.prog 3 Try.f3 := ⟨Try.func3, rfl, by decide⟩
theorem F_4 : IsF Try.prog 4 Try.f4 := ⟨Try.func4, rfl, by decide⟩
theorem F_5 : IsF Try.prog 5 Try.f5 := ⟨Try.func5, rfl, by decide⟩
theorem F_6 : IsF Try.prog 6 Try.f6 := ⟨Try.func6, rfl, by decide⟩
theorem F_7 : IsF Try.prog 7 Try.f7 := ⟨Try.func7, rfl, by decide⟩
theorem F_8 : IsF Try.prog 8 Try.f8 := ⟨Try.func8, rfl, by decide⟩
theorem F_9 : IsF Try.prog 9 Try.f9 := ⟨Try.func9, rfl, by decide⟩
theorem F_10 : IsF Try.prog 10 Try.f10 := ⟨Try.func10, rfl, by decide⟩
theorem F_11 : IsF Try.prog 11 Try.f11 := ⟨Try.func11, rfl, by decide⟩
theorem F_12 : IsF Try.prog 12 Try.f12 := ⟨Try.func12, rfl, by decide⟩
theorem F_13 : IsF Try.prog 13 Try.f13 := ⟨Try.func13, rfl, by decide⟩
theorem F_14 : IsF Try.prog 14 Try.f14 := ⟨Try.func14, rfl, by decide⟩
theorem F_15 : IsF Try.prog 15 Try.f15 := ⟨Try.func15, rfl, by decide⟩
theorem F_16 : IsF Try.prog 16 Try.f16 := ⟨Try.func16, rfl, by decide⟩
theorem F_17 : IsF Try.prog 17 Try.f17 := ⟨Try.func17, rfl, by decide⟩
theorem F_18 : IsF Try.prog 18 Try.f18 := ⟨Try.func18, rfl, by decide⟩
theorem F_19 : IsF Try.prog 19 Try.f19 := ⟨Try.func19, rfl, by decide⟩
theorem F_20 : IsF Try.prog 20 Try.f20 := ⟨Try.func20, rfl, by decide⟩
theorem F_21 : IsF Try.prog 21 Try.f21 := ⟨Try.func21, rfl, by decide⟩
theorem F_22 : IsF Try.prog 22 Try.f22 := ⟨Try.func22, rfl, by decide⟩
theorem F_23 : IsF Try.prog 23 Try.f23 := ⟨Try.func23, rfl, by decide⟩
theorem F_24 : IsF Try.prog 24 Try.f24 := ⟨Try.func24, rfl, by decide⟩
theorem F_25 : IsF Try.prog 25 Try.f25 := ⟨Try.func25, rfl, by decide⟩
theorem F_26 : IsF Try.prog 26 Try.f26 := ⟨Try.func26, rfl, by decide⟩
theorem F_27 : IsF Try.prog 27 Try.f27 := ⟨Try.func27, rfl, by decide⟩
theorem F_28 : IsF Try.prog 28 Try.f28 := ⟨Try.func28, rfl, by decide⟩
theorem F_29 : IsF Try.prog 29 Try.f29 := ⟨Try.func29, rfl, by decide⟩
theorem F_30 : IsF Try.prog 30 Try.f30 := ⟨Try.func30, rfl, by decide⟩
theorem F_31 : IsF Try.prog 31 Try.f31 := ⟨Try.func31, rfl, by decide⟩
theorem F_32 : IsF Try.prog 32 Try.f32 := ⟨Try.func32, rfl, by decide⟩
theorem F_33 : IsF Try.prog 33 Try.f33 := ⟨Try.func33, rfl, by decide⟩
theorem F_34 : IsF Try.prog 34 Try.f34 := ⟨Try.func34, rfl, by decide⟩
theorem F_35 : IsF Try.prog 35 Try.f35 := ⟨Try.func35, rfl, by decide⟩
theorem F_36 : IsF Try.prog 36 Try.f36 := ⟨Try.func36, rfl, by decide⟩
theorem F_37 : IsF Try.prog 37 Try.f37 := ⟨Try.func37, rfl, by decide⟩
end Go.Proofs.Ytboicgdblbfbeaa
