/- The facts of this program's types and functions (written by a program). -/
import Derived.Test.YtoknjpmlloikhaaK1
import Derived.Test.YtoknjpmlloikhaaProg
import Derived.KernelRfl
namespace Go.Proofs.Ytoknjpmlloikhaa
set_option linter.unusedVariables false
set_option linter.unusedSimpArgs false
open Go Go.RowKit

theorem T1_2 : T1 Try.prog 2 := ⟨fun w => by kernel_rfl, fun w => by kernel_rfl⟩
theorem TI_2 : TI Try.prog 2 (.int .i64 0) 1 8 := TI.of (by kernel_rfl) rfl (by decide) (by decide)
theorem U_2 : Try.prog.underlying 2 = some (.int .i64) := by kernel_rfl
theorem T1_3 : T1 Try.prog 3 := ⟨fun w => by kernel_rfl, fun w => by kernel_rfl⟩
theorem TI_3 : TI Try.prog 3 (.int .i64 0) 1 8 := TI.of (by kernel_rfl) rfl (by decide) (by decide)
theorem U_3 : Try.prog.underlying 3 = some (.int .i64) := by kernel_rfl
theorem T1_4 : T1 Try.prog 4 := ⟨fun w => by kernel_rfl, fun w => by kernel_rfl⟩
theorem TI_4 : TI Try.prog 4 (.bool false) 1 1 := TI.of (by kernel_rfl) rfl (by decide) (by decide)
theorem U_4 : Try.prog.underlying 4 = some .bool := by kernel_rfl
theorem T1_5 : T1 Try.prog 5 := ⟨fun w => by kernel_rfl, fun w => by kernel_rfl⟩
theorem TI_5 : TI Try.prog 5 (.int .u8 0) 1 1 := TI.of (by kernel_rfl) rfl (by decide) (by decide)
theorem U_5 : Try.prog.underlying 5 = some (.int .u8) := by kernel_rfl
theorem T1_9 : T1 Try.prog 9 := ⟨fun w => by kernel_rfl, fun w => by kernel_rfl⟩
theorem TI_9 : TI Try.prog 9 (.string ⟨#[]⟩) 1 16 := TI.of (by kernel_rfl) rfl (by decide) (by decide)
theorem U_9 : Try.prog.underlying 9 = some .string := by kernel_rfl
theorem T1_12 : T1 Try.prog 12 := ⟨fun w => by kernel_rfl, fun w => by kernel_rfl⟩
theorem TI_12 : TI Try.prog 12 (.int .u64 0) 1 8 := TI.of (by kernel_rfl) rfl (by decide) (by decide)
theorem U_12 : Try.prog.underlying 12 = some (.int .u64) := by kernel_rfl
theorem TA_13 : TA Try.prog 13 2 := ⟨fun w => by kernel_rfl, fun w => by kernel_rfl⟩
theorem TI_13 : TI Try.prog 13 (.agg #[.string ⟨#[]⟩, .int .u64 0]) 2 24 := TI.of (by kernel_rfl) rfl (by decide) (by decide)
def fd_13_0 : Field := { name := "msg", type := 9, offset := 0, embedded := false, tag := "", pkgPath := "runtime", byteOffset := 0 }
def fd_13_1 : Field := { name := "addr", type := 12, offset := 1, embedded := false, tag := "", pkgPath := "runtime", byteOffset := 16 }
theorem U_13 : Try.prog.underlying 13 = some (.struct #[fd_13_0, fd_13_1]) := by kernel_rfl
theorem T1_21 : T1 Try.prog 21 := ⟨fun w => by kernel_rfl, fun w => by kernel_rfl⟩
theorem TI_21 : TI Try.prog 21 (.int .i32 0) 1 4 := TI.of (by kernel_rfl) rfl (by decide) (by decide)
theorem U_21 : Try.prog.underlying 21 = some (.int .i32) := by kernel_rfl
theorem T1_22 : T1 Try.prog 22 := ⟨fun w => by kernel_rfl, fun w => by kernel_rfl⟩
theorem TI_22 : TI Try.prog 22 (.slice none 0 0) 1 24 := TI.of (by kernel_rfl) rfl (by decide) (by decide)
theorem U_22 : Try.prog.underlying 22 = some (.slice 74) := by kernel_rfl
theorem T1_23 : T1 Try.prog 23 := ⟨fun w => by kernel_rfl, fun w => by kernel_rfl⟩
theorem TI_23 : TI Try.prog 23 (.slice none 0 0) 1 24 := TI.of (by kernel_rfl) rfl (by decide) (by decide)
theorem U_23 : Try.prog.underlying 23 = some (.slice 63) := by kernel_rfl
theorem TA_24 : TA Try.prog 24 3 := ⟨fun w => by kernel_rfl, fun w => by kernel_rfl⟩
theorem TI_24 : TI Try.prog 24 (.agg #[.slice none 0 0, .slice none 0 0, .int .i64 0]) 3 56 := TI.of (by kernel_rfl) rfl (by decide) (by decide)
def fd_24_0 : Field := { name := "Arrays", type := 22, offset := 0, embedded := false, tag := "", pkgPath := "", byteOffset := 0 }
def fd_24_1 : Field := { name := "Funcs", type := 23, offset := 1, embedded := false, tag := "", pkgPath := "", byteOffset := 24 }
def fd_24_2 : Field := { name := "Main", type := 3, offset := 2, embedded := false, tag := "", pkgPath := "", byteOffset := 48 }
theorem U_24 : Try.prog.underlying 24 = some (.struct #[fd_24_0, fd_24_1, fd_24_2]) := by kernel_rfl
theorem TA_25 : TA Try.prog 25 3 := ⟨fun w => by kernel_rfl, fun w => by kernel_rfl⟩
theorem TI_25 : TI Try.prog 25 (.agg #[.slice none 0 0, .slice none 0 0, .int .i64 0]) 3 56 := TI.of (by kernel_rfl) rfl (by decide) (by decide)
def fd_25_0 : Field := { name := "Arrays", type := 22, offset := 0, embedded := false, tag := "", pkgPath := "", byteOffset := 0 }
def fd_25_1 : Field := { name := "Funcs", type := 23, offset := 1, embedded := false, tag := "", pkgPath := "", byteOffset := 24 }
def fd_25_2 : Field := { name := "Main", type := 3, offset := 2, embedded := false, tag := "", pkgPath := "", byteOffset := 48 }
theorem U_25 : Try.prog.underlying 25 = some (.struct #[fd_25_0, fd_25_1, fd_25_2]) := by kernel_rfl
theorem T1_26 : T1 Try.prog 26 := ⟨fun w => by kernel_rfl, fun w => by kernel_rfl⟩
theorem TI_26 : TI Try.prog 26 (.slice none 0 0) 1 24 := TI.of (by kernel_rfl) rfl (by decide) (by decide)
theorem U_26 : Try.prog.underlying 26 = some (.slice 45) := by kernel_rfl
theorem T1_30 : T1 Try.prog 30 := ⟨fun w => by kernel_rfl, fun w => by kernel_rfl⟩
theorem TI_30 : TI Try.prog 30 (.int .i64 0) 1 8 := TI.of (by kernel_rfl) rfl (by decide) (by decide)
theorem U_30 : Try.prog.underlying 30 = some (.int .i64) := by kernel_rfl
theorem T1_31 : T1 Try.prog 31 := ⟨fun w => by kernel_rfl, fun w => by kernel_rfl⟩
theorem TI_31 : TI Try.prog 31 (.slice none 0 0) 1 24 := TI.of (by kernel_rfl) rfl (by decide) (by decide)
theorem U_31 : Try.prog.underlying 31 = some (.slice 86) := by kernel_rfl
theorem TA_32 : TA Try.prog 32 6 := ⟨fun w => by kernel_rfl, fun w => by kernel_rfl⟩
theorem TI_32 : TI Try.prog 32 (.agg #[.int .i64 0, .int .i64 0, .slice none 0 0, .int .i64 0, .int .i64 0, .slice none 0 0]) 6 80 := TI.of (by kernel_rfl) rfl (by decide) (by decide)
def fd_32_0 : Field := { name := "Val", type := 2, offset := 0, embedded := false, tag := "", pkgPath := "", byteOffset := 0 }
def fd_32_1 : Field := { name := "Trap", type := 30, offset := 1, embedded := false, tag := "", pkgPath := "", byteOffset := 8 }
def fd_32_2 : Field := { name := "Leaks", type := 31, offset := 2, embedded := false, tag := "", pkgPath := "", byteOffset := 16 }
def fd_32_3 : Field := { name := "Steps", type := 3, offset := 3, embedded := false, tag := "", pkgPath := "", byteOffset := 40 }
def fd_32_4 : Field := { name := "Deep", type := 3, offset := 4, embedded := false, tag := "", pkgPath := "", byteOffset := 48 }
def fd_32_5 : Field := { name := "Mem", type := 26, offset := 5, embedded := false, tag := "", pkgPath := "", byteOffset := 56 }
theorem U_32 : Try.prog.underlying 32 = some (.struct #[fd_32_0, fd_32_1, fd_32_2, fd_32_3, fd_32_4, fd_32_5]) := by kernel_rfl
theorem TA_33 : TA Try.prog 33 6 := ⟨fun w => by kernel_rfl, fun w => by kernel_rfl⟩
theorem TI_33 : TI Try.prog 33 (.agg #[.int .i64 0, .int .i64 0, .slice none 0 0, .int .i64 0, .int .i64 0, .slice none 0 0]) 6 80 := TI.of (by kernel_rfl) rfl (by decide) (by decide)
def fd_33_0 : Field := { name := "Val", type := 2, offset := 0, embedded := false, tag := "", pkgPath := "", byteOffset := 0 }
def fd_33_1 : Field := { name := "Trap", type := 30, offset := 1, embedded := false, tag := "", pkgPath := "", byteOffset := 8 }
def fd_33_2 : Field := { name := "Leaks", type := 31, offset := 2, embedded := false, tag := "", pkgPath := "", byteOffset := 16 }
def fd_33_3 : Field := { name := "Steps", type := 3, offset := 3, embedded := false, tag := "", pkgPath := "", byteOffset := 40 }
def fd_33_4 : Field := { name := "Deep", type := 3, offset := 4, embedded := false, tag := "", pkgPath := "", byteOffset := 48 }
def fd_33_5 : Field := { name := "Mem", type := 26, offset := 5, embedded := false, tag := "", pkgPath := "", byteOffset := 56 }
theorem U_33 : Try.prog.underlying 33 = some (.struct #[fd_33_0, fd_33_1, fd_33_2, fd_33_3, fd_33_4, fd_33_5]) := by kernel_rfl
theorem T1_34 : T1 Try.prog 34 := ⟨fun w => by kernel_rfl, fun w => by kernel_rfl⟩
theorem TI_34 : TI Try.prog 34 (.int .i64 0) 1 8 := TI.of (by kernel_rfl) rfl (by decide) (by decide)
theorem U_34 : Try.prog.underlying 34 = some (.int .i64) := by kernel_rfl
theorem T1_38 : T1 Try.prog 38 := ⟨fun w => by kernel_rfl, fun w => by kernel_rfl⟩
theorem TI_38 : TI Try.prog 38 (.pointer none) 1 8 := TI.of (by kernel_rfl) rfl (by decide) (by decide)
theorem U_38 : Try.prog.underlying 38 = some (.pointer 41) := by kernel_rfl
theorem TA_40 : TA Try.prog 40 8 := ⟨fun w => by kernel_rfl, fun w => by kernel_rfl⟩
theorem TI_40 : TI Try.prog 40 (.agg #[.slice none 0 0, .slice none 0 0, .int .i64 0, .slice none 0 0, .slice none 0 0, .int .i64 0, .int .i64 0, .bool false]) 8 128 := TI.of (by kernel_rfl) rfl (by decide) (by decide)
def fd_40_0 : Field := { name := "p", type := 25, offset := 0, embedded := false, tag := "", pkgPath := "palings/palingslaw08", byteOffset := 0 }
def fd_40_1 : Field := { name := "mem", type := 26, offset := 3, embedded := false, tag := "", pkgPath := "palings/palingslaw08", byteOffset := 56 }
def fd_40_2 : Field := { name := "out", type := 31, offset := 4, embedded := false, tag := "", pkgPath := "palings/palingslaw08", byteOffset := 80 }
def fd_40_3 : Field := { name := "left", type := 3, offset := 5, embedded := false, tag := "", pkgPath := "palings/palingslaw08", byteOffset := 104 }
def fd_40_4 : Field := { name := "trap", type := 30, offset := 6, embedded := false, tag := "", pkgPath := "palings/palingslaw08", byteOffset := 112 }
def fd_40_5 : Field := { name := "spent", type := 4, offset := 7, embedded := false, tag := "", pkgPath := "palings/palingslaw08", byteOffset := 120 }
theorem U_40 : Try.prog.underlying 40 = some (.struct #[fd_40_0, fd_40_1, fd_40_2, fd_40_3, fd_40_4, fd_40_5]) := by kernel_rfl
theorem TA_41 : TA Try.prog 41 8 := ⟨fun w => by kernel_rfl, fun w => by kernel_rfl⟩
theorem TI_41 : TI Try.prog 41 (.agg #[.slice none 0 0, .slice none 0 0, .int .i64 0, .slice none 0 0, .slice none 0 0, .int .i64 0, .int .i64 0, .bool false]) 8 128 := TI.of (by kernel_rfl) rfl (by decide) (by decide)
def fd_41_0 : Field := { name := "p", type := 25, offset := 0, embedded := false, tag := "", pkgPath := "palings/palingslaw08", byteOffset := 0 }
def fd_41_1 : Field := { name := "mem", type := 26, offset := 3, embedded := false, tag := "", pkgPath := "palings/palingslaw08", byteOffset := 56 }
def fd_41_2 : Field := { name := "out", type := 31, offset := 4, embedded := false, tag := "", pkgPath := "palings/palingslaw08", byteOffset := 80 }
def fd_41_3 : Field := { name := "left", type := 3, offset := 5, embedded := false, tag := "", pkgPath := "palings/palingslaw08", byteOffset := 104 }
def fd_41_4 : Field := { name := "trap", type := 30, offset := 6, embedded := false, tag := "", pkgPath := "palings/palingslaw08", byteOffset := 112 }
def fd_41_5 : Field := { name := "spent", type := 4, offset := 7, embedded := false, tag := "", pkgPath := "palings/palingslaw08", byteOffset := 120 }
theorem U_41 : Try.prog.underlying 41 = some (.struct #[fd_41_0, fd_41_1, fd_41_2, fd_41_3, fd_41_4, fd_41_5]) := by kernel_rfl
theorem T1_45 : T1 Try.prog 45 := ⟨fun w => by kernel_rfl, fun w => by kernel_rfl⟩
theorem TI_45 : TI Try.prog 45 (.slice none 0 0) 1 24 := TI.of (by kernel_rfl) rfl (by decide) (by decide)
theorem U_45 : Try.prog.underlying 45 = some (.slice 2) := by kernel_rfl
theorem T1_47 : T1 Try.prog 47 := ⟨fun w => by kernel_rfl, fun w => by kernel_rfl⟩
theorem TI_47 : TI Try.prog 47 (.int .i64 0) 1 8 := TI.of (by kernel_rfl) rfl (by decide) (by decide)
theorem U_47 : Try.prog.underlying 47 = some (.int .i64) := by kernel_rfl
theorem T1_48 : T1 Try.prog 48 := ⟨fun w => by kernel_rfl, fun w => by kernel_rfl⟩
theorem TI_48 : TI Try.prog 48 (.slice none 0 0) 1 24 := TI.of (by kernel_rfl) rfl (by decide) (by decide)
theorem U_48 : Try.prog.underlying 48 = some (.slice 3) := by kernel_rfl
theorem T1_49 : T1 Try.prog 49 := ⟨fun w => by kernel_rfl, fun w => by kernel_rfl⟩
theorem TI_49 : TI Try.prog 49 (.int .i64 0) 1 8 := TI.of (by kernel_rfl) rfl (by decide) (by decide)
theorem U_49 : Try.prog.underlying 49 = some (.int .i64) := by kernel_rfl
theorem TA_50 : TA Try.prog 50 7 := ⟨fun w => by kernel_rfl, fun w => by kernel_rfl⟩
theorem TI_50 : TI Try.prog 50 (.agg #[.int .i64 0, .int .i64 0, .slice none 0 0, .int .i64 0, .int .i64 0, .int .i64 0, .int .i64 0]) 7 72 := TI.of (by kernel_rfl) rfl (by decide) (by decide)
def fd_50_0 : Field := { name := "Op", type := 47, offset := 0, embedded := false, tag := "", pkgPath := "", byteOffset := 0 }
def fd_50_1 : Field := { name := "Dst", type := 3, offset := 1, embedded := false, tag := "", pkgPath := "", byteOffset := 8 }
def fd_50_2 : Field := { name := "Args", type := 48, offset := 2, embedded := false, tag := "", pkgPath := "", byteOffset := 16 }
def fd_50_3 : Field := { name := "Num", type := 2, offset := 3, embedded := false, tag := "", pkgPath := "", byteOffset := 40 }
def fd_50_4 : Field := { name := "Bin", type := 49, offset := 4, embedded := false, tag := "", pkgPath := "", byteOffset := 48 }
def fd_50_5 : Field := { name := "Arr", type := 3, offset := 5, embedded := false, tag := "", pkgPath := "", byteOffset := 56 }
def fd_50_6 : Field := { name := "Fn", type := 3, offset := 6, embedded := false, tag := "", pkgPath := "", byteOffset := 64 }
theorem U_50 : Try.prog.underlying 50 = some (.struct #[fd_50_0, fd_50_1, fd_50_2, fd_50_3, fd_50_4, fd_50_5, fd_50_6]) := by kernel_rfl
theorem TA_51 : TA Try.prog 51 7 := ⟨fun w => by kernel_rfl, fun w => by kernel_rfl⟩
theorem TI_51 : TI Try.prog 51 (.agg #[.int .i64 0, .int .i64 0, .slice none 0 0, .int .i64 0, .int .i64 0, .int .i64 0, .int .i64 0]) 7 72 := TI.of (by kernel_rfl) rfl (by decide) (by decide)
def fd_51_0 : Field := { name := "Op", type := 47, offset := 0, embedded := false, tag := "", pkgPath := "", byteOffset := 0 }
def fd_51_1 : Field := { name := "Dst", type := 3, offset := 1, embedded := false, tag := "", pkgPath := "", byteOffset := 8 }
def fd_51_2 : Field := { name := "Args", type := 48, offset := 2, embedded := false, tag := "", pkgPath := "", byteOffset := 16 }
def fd_51_3 : Field := { name := "Num", type := 2, offset := 3, embedded := false, tag := "", pkgPath := "", byteOffset := 40 }
def fd_51_4 : Field := { name := "Bin", type := 49, offset := 4, embedded := false, tag := "", pkgPath := "", byteOffset := 48 }
def fd_51_5 : Field := { name := "Arr", type := 3, offset := 5, embedded := false, tag := "", pkgPath := "", byteOffset := 56 }
def fd_51_6 : Field := { name := "Fn", type := 3, offset := 6, embedded := false, tag := "", pkgPath := "", byteOffset := 64 }
theorem U_51 : Try.prog.underlying 51 = some (.struct #[fd_51_0, fd_51_1, fd_51_2, fd_51_3, fd_51_4, fd_51_5, fd_51_6]) := by kernel_rfl
theorem T1_52 : T1 Try.prog 52 := ⟨fun w => by kernel_rfl, fun w => by kernel_rfl⟩
theorem TI_52 : TI Try.prog 52 (.slice none 0 0) 1 24 := TI.of (by kernel_rfl) rfl (by decide) (by decide)
theorem U_52 : Try.prog.underlying 52 = some (.slice 51) := by kernel_rfl
theorem T1_53 : T1 Try.prog 53 := ⟨fun w => by kernel_rfl, fun w => by kernel_rfl⟩
theorem TI_53 : TI Try.prog 53 (.int .i64 0) 1 8 := TI.of (by kernel_rfl) rfl (by decide) (by decide)
theorem U_53 : Try.prog.underlying 53 = some (.int .i64) := by kernel_rfl
theorem TA_54 : TA Try.prog 54 2 := ⟨fun w => by kernel_rfl, fun w => by kernel_rfl⟩
theorem TI_54 : TI Try.prog 54 (.agg #[.int .i64 0, .slice none 0 0]) 2 32 := TI.of (by kernel_rfl) rfl (by decide) (by decide)
def fd_54_0 : Field := { name := "To", type := 3, offset := 0, embedded := false, tag := "", pkgPath := "", byteOffset := 0 }
def fd_54_1 : Field := { name := "Args", type := 48, offset := 1, embedded := false, tag := "", pkgPath := "", byteOffset := 8 }
theorem U_54 : Try.prog.underlying 54 = some (.struct #[fd_54_0, fd_54_1]) := by kernel_rfl
theorem TA_55 : TA Try.prog 55 2 := ⟨fun w => by kernel_rfl, fun w => by kernel_rfl⟩
theorem TI_55 : TI Try.prog 55 (.agg #[.int .i64 0, .slice none 0 0]) 2 32 := TI.of (by kernel_rfl) rfl (by decide) (by decide)
def fd_55_0 : Field := { name := "To", type := 3, offset := 0, embedded := false, tag := "", pkgPath := "", byteOffset := 0 }
def fd_55_1 : Field := { name := "Args", type := 48, offset := 1, embedded := false, tag := "", pkgPath := "", byteOffset := 8 }
theorem U_55 : Try.prog.underlying 55 = some (.struct #[fd_55_0, fd_55_1]) := by kernel_rfl
theorem T1_56 : T1 Try.prog 56 := ⟨fun w => by kernel_rfl, fun w => by kernel_rfl⟩
theorem TI_56 : TI Try.prog 56 (.slice none 0 0) 1 24 := TI.of (by kernel_rfl) rfl (by decide) (by decide)
theorem U_56 : Try.prog.underlying 56 = some (.slice 55) := by kernel_rfl
theorem TA_57 : TA Try.prog 57 4 := ⟨fun w => by kernel_rfl, fun w => by kernel_rfl⟩
theorem TI_57 : TI Try.prog 57 (.agg #[.int .i64 0, .int .i64 0, .slice none 0 0, .int .i64 0]) 4 48 := TI.of (by kernel_rfl) rfl (by decide) (by decide)
def fd_57_0 : Field := { name := "Kind", type := 53, offset := 0, embedded := false, tag := "", pkgPath := "", byteOffset := 0 }
def fd_57_1 : Field := { name := "Val", type := 3, offset := 1, embedded := false, tag := "", pkgPath := "", byteOffset := 8 }
def fd_57_2 : Field := { name := "Ways", type := 56, offset := 2, embedded := false, tag := "", pkgPath := "", byteOffset := 16 }
def fd_57_3 : Field := { name := "Trap", type := 30, offset := 3, embedded := false, tag := "", pkgPath := "", byteOffset := 40 }
theorem U_57 : Try.prog.underlying 57 = some (.struct #[fd_57_0, fd_57_1, fd_57_2, fd_57_3]) := by kernel_rfl
theorem TA_58 : TA Try.prog 58 4 := ⟨fun w => by kernel_rfl, fun w => by kernel_rfl⟩
theorem TI_58 : TI Try.prog 58 (.agg #[.int .i64 0, .int .i64 0, .slice none 0 0, .int .i64 0]) 4 48 := TI.of (by kernel_rfl) rfl (by decide) (by decide)
def fd_58_0 : Field := { name := "Kind", type := 53, offset := 0, embedded := false, tag := "", pkgPath := "", byteOffset := 0 }
def fd_58_1 : Field := { name := "Val", type := 3, offset := 1, embedded := false, tag := "", pkgPath := "", byteOffset := 8 }
def fd_58_2 : Field := { name := "Ways", type := 56, offset := 2, embedded := false, tag := "", pkgPath := "", byteOffset := 16 }
def fd_58_3 : Field := { name := "Trap", type := 30, offset := 3, embedded := false, tag := "", pkgPath := "", byteOffset := 40 }
theorem U_58 : Try.prog.underlying 58 = some (.struct #[fd_58_0, fd_58_1, fd_58_2, fd_58_3]) := by kernel_rfl
theorem TA_59 : TA Try.prog 59 6 := ⟨fun w => by kernel_rfl, fun w => by kernel_rfl⟩
theorem TI_59 : TI Try.prog 59 (.agg #[.slice none 0 0, .slice none 0 0, .int .i64 0, .int .i64 0, .slice none 0 0, .int .i64 0]) 6 96 := TI.of (by kernel_rfl) rfl (by decide) (by decide)
def fd_59_0 : Field := { name := "Params", type := 48, offset := 0, embedded := false, tag := "", pkgPath := "", byteOffset := 0 }
def fd_59_1 : Field := { name := "Ins", type := 52, offset := 1, embedded := false, tag := "", pkgPath := "", byteOffset := 24 }
def fd_59_2 : Field := { name := "End", type := 58, offset := 2, embedded := false, tag := "", pkgPath := "", byteOffset := 48 }
theorem U_59 : Try.prog.underlying 59 = some (.struct #[fd_59_0, fd_59_1, fd_59_2]) := by kernel_rfl
theorem TA_60 : TA Try.prog 60 6 := ⟨fun w => by kernel_rfl, fun w => by kernel_rfl⟩
theorem TI_60 : TI Try.prog 60 (.agg #[.slice none 0 0, .slice none 0 0, .int .i64 0, .int .i64 0, .slice none 0 0, .int .i64 0]) 6 96 := TI.of (by kernel_rfl) rfl (by decide) (by decide)
def fd_60_0 : Field := { name := "Params", type := 48, offset := 0, embedded := false, tag := "", pkgPath := "", byteOffset := 0 }
def fd_60_1 : Field := { name := "Ins", type := 52, offset := 1, embedded := false, tag := "", pkgPath := "", byteOffset := 24 }
def fd_60_2 : Field := { name := "End", type := 58, offset := 2, embedded := false, tag := "", pkgPath := "", byteOffset := 48 }
theorem U_60 : Try.prog.underlying 60 = some (.struct #[fd_60_0, fd_60_1, fd_60_2]) := by kernel_rfl
theorem T1_61 : T1 Try.prog 61 := ⟨fun w => by kernel_rfl, fun w => by kernel_rfl⟩
theorem TI_61 : TI Try.prog 61 (.slice none 0 0) 1 24 := TI.of (by kernel_rfl) rfl (by decide) (by decide)
theorem U_61 : Try.prog.underlying 61 = some (.slice 60) := by kernel_rfl
theorem TA_62 : TA Try.prog 62 2 := ⟨fun w => by kernel_rfl, fun w => by kernel_rfl⟩
theorem TI_62 : TI Try.prog 62 (.agg #[.string ⟨#[]⟩, .slice none 0 0]) 2 40 := TI.of (by kernel_rfl) rfl (by decide) (by decide)
def fd_62_0 : Field := { name := "Name", type := 9, offset := 0, embedded := false, tag := "", pkgPath := "", byteOffset := 0 }
def fd_62_1 : Field := { name := "Blocks", type := 61, offset := 1, embedded := false, tag := "", pkgPath := "", byteOffset := 16 }
theorem U_62 : Try.prog.underlying 62 = some (.struct #[fd_62_0, fd_62_1]) := by kernel_rfl
theorem TA_63 : TA Try.prog 63 2 := ⟨fun w => by kernel_rfl, fun w => by kernel_rfl⟩
theorem TI_63 : TI Try.prog 63 (.agg #[.string ⟨#[]⟩, .slice none 0 0]) 2 40 := TI.of (by kernel_rfl) rfl (by decide) (by decide)
def fd_63_0 : Field := { name := "Name", type := 9, offset := 0, embedded := false, tag := "", pkgPath := "", byteOffset := 0 }
def fd_63_1 : Field := { name := "Blocks", type := 61, offset := 1, embedded := false, tag := "", pkgPath := "", byteOffset := 16 }
theorem U_63 : Try.prog.underlying 63 = some (.struct #[fd_63_0, fd_63_1]) := by kernel_rfl
theorem T1_67 : T1 Try.prog 67 := ⟨fun w => by kernel_rfl, fun w => by kernel_rfl⟩
theorem TI_67 : TI Try.prog 67 (.pointer none) 1 8 := TI.of (by kernel_rfl) rfl (by decide) (by decide)
theorem U_67 : Try.prog.underlying 67 = some (.pointer 70) := by kernel_rfl
theorem T1_68 : T1 Try.prog 68 := ⟨fun w => by kernel_rfl, fun w => by kernel_rfl⟩
theorem TI_68 : TI Try.prog 68 (.slice none 0 0) 1 24 := TI.of (by kernel_rfl) rfl (by decide) (by decide)
theorem U_68 : Try.prog.underlying 68 = some (.slice 90) := by kernel_rfl
theorem TA_69 : TA Try.prog 69 11 := ⟨fun w => by kernel_rfl, fun w => by kernel_rfl⟩
theorem TI_69 : TI Try.prog 69 (.agg #[.slice none 0 0, .slice none 0 0, .int .i64 0, .slice none 0 0, .int .i64 0, .int .i64 0, .slice none 0 0, .int .i64 0, .int .i64 0, .slice none 0 0, .bool false]) 11 168 := TI.of (by kernel_rfl) rfl (by decide) (by decide)
def fd_69_0 : Field := { name := "p", type := 25, offset := 0, embedded := false, tag := "", pkgPath := "palings/sim", byteOffset := 0 }
def fd_69_1 : Field := { name := "fs", type := 68, offset := 3, embedded := false, tag := "", pkgPath := "palings/sim", byteOffset := 56 }
def fd_69_2 : Field := { name := "out", type := 33, offset := 4, embedded := false, tag := "", pkgPath := "palings/sim", byteOffset := 80 }
def fd_69_3 : Field := { name := "end", type := 4, offset := 10, embedded := false, tag := "", pkgPath := "palings/sim", byteOffset := 160 }
theorem U_69 : Try.prog.underlying 69 = some (.struct #[fd_69_0, fd_69_1, fd_69_2, fd_69_3]) := by kernel_rfl
theorem TA_70 : TA Try.prog 70 11 := ⟨fun w => by kernel_rfl, fun w => by kernel_rfl⟩
theorem TI_70 : TI Try.prog 70 (.agg #[.slice none 0 0, .slice none 0 0, .int .i64 0, .slice none 0 0, .int .i64 0, .int .i64 0, .slice none 0 0, .int .i64 0, .int .i64 0, .slice none 0 0, .bool false]) 11 168 := TI.of (by kernel_rfl) rfl (by decide) (by decide)
def fd_70_0 : Field := { name := "p", type := 25, offset := 0, embedded := false, tag := "", pkgPath := "palings/sim", byteOffset := 0 }
def fd_70_1 : Field := { name := "fs", type := 68, offset := 3, embedded := false, tag := "", pkgPath := "palings/sim", byteOffset := 56 }
def fd_70_2 : Field := { name := "out", type := 33, offset := 4, embedded := false, tag := "", pkgPath := "palings/sim", byteOffset := 80 }
def fd_70_3 : Field := { name := "end", type := 4, offset := 10, embedded := false, tag := "", pkgPath := "palings/sim", byteOffset := 160 }
theorem U_70 : Try.prog.underlying 70 = some (.struct #[fd_70_0, fd_70_1, fd_70_2, fd_70_3]) := by kernel_rfl
theorem T1_72 : T1 Try.prog 72 := ⟨fun w => by kernel_rfl, fun w => by kernel_rfl⟩
theorem TI_72 : TI Try.prog 72 (.int .i64 0) 1 8 := TI.of (by kernel_rfl) rfl (by decide) (by decide)
theorem U_72 : Try.prog.underlying 72 = some (.int .i64) := by kernel_rfl
theorem TA_73 : TA Try.prog 73 3 := ⟨fun w => by kernel_rfl, fun w => by kernel_rfl⟩
theorem TI_73 : TI Try.prog 73 (.agg #[.string ⟨#[]⟩, .int .i64 0, .int .i64 0]) 3 32 := TI.of (by kernel_rfl) rfl (by decide) (by decide)
def fd_73_0 : Field := { name := "Name", type := 9, offset := 0, embedded := false, tag := "", pkgPath := "", byteOffset := 0 }
def fd_73_1 : Field := { name := "Hold", type := 72, offset := 1, embedded := false, tag := "", pkgPath := "", byteOffset := 16 }
def fd_73_2 : Field := { name := "Size", type := 3, offset := 2, embedded := false, tag := "", pkgPath := "", byteOffset := 24 }
theorem U_73 : Try.prog.underlying 73 = some (.struct #[fd_73_0, fd_73_1, fd_73_2]) := by kernel_rfl
theorem TA_74 : TA Try.prog 74 3 := ⟨fun w => by kernel_rfl, fun w => by kernel_rfl⟩
theorem TI_74 : TI Try.prog 74 (.agg #[.string ⟨#[]⟩, .int .i64 0, .int .i64 0]) 3 32 := TI.of (by kernel_rfl) rfl (by decide) (by decide)
def fd_74_0 : Field := { name := "Name", type := 9, offset := 0, embedded := false, tag := "", pkgPath := "", byteOffset := 0 }
def fd_74_1 : Field := { name := "Hold", type := 72, offset := 1, embedded := false, tag := "", pkgPath := "", byteOffset := 16 }
def fd_74_2 : Field := { name := "Size", type := 3, offset := 2, embedded := false, tag := "", pkgPath := "", byteOffset := 24 }
theorem U_74 : Try.prog.underlying 74 = some (.struct #[fd_74_0, fd_74_1, fd_74_2]) := by kernel_rfl
theorem T1_79 : T1 Try.prog 79 := ⟨fun w => by kernel_rfl, fun w => by kernel_rfl⟩
theorem TI_79 : TI Try.prog 79 (.slice none 0 0) 1 24 := TI.of (by kernel_rfl) rfl (by decide) (by decide)
theorem U_79 : Try.prog.underlying 79 = some (.slice 81) := by kernel_rfl
theorem T1_81 : T1 Try.prog 81 := ⟨fun w => by kernel_rfl, fun w => by kernel_rfl⟩
theorem TI_81 : TI Try.prog 81 (.map none) 1 8 := TI.of (by kernel_rfl) rfl (by decide) (by decide)
theorem U_81 : Try.prog.underlying 81 = some (.map 3 4) := by kernel_rfl
theorem T1_83 : T1 Try.prog 83 := ⟨fun w => by kernel_rfl, fun w => by kernel_rfl⟩
theorem TI_83 : TI Try.prog 83 (.map none) 1 8 := TI.of (by kernel_rfl) rfl (by decide) (by decide)
theorem U_83 : Try.prog.underlying 83 = some (.map 3 2) := by kernel_rfl
theorem T1_84 : T1 Try.prog 84 := ⟨fun w => by kernel_rfl, fun w => by kernel_rfl⟩
theorem TI_84 : TI Try.prog 84 (.int .i64 0) 1 8 := TI.of (by kernel_rfl) rfl (by decide) (by decide)
theorem U_84 : Try.prog.underlying 84 = some (.int .i64) := by kernel_rfl
theorem TA_85 : TA Try.prog 85 3 := ⟨fun w => by kernel_rfl, fun w => by kernel_rfl⟩
theorem TI_85 : TI Try.prog 85 (.agg #[.int .i64 0, .int .i64 0, .int .i64 0]) 3 24 := TI.of (by kernel_rfl) rfl (by decide) (by decide)
def fd_85_0 : Field := { name := "Kind", type := 84, offset := 0, embedded := false, tag := "", pkgPath := "", byteOffset := 0 }
def fd_85_1 : Field := { name := "A", type := 2, offset := 1, embedded := false, tag := "", pkgPath := "", byteOffset := 8 }
def fd_85_2 : Field := { name := "B", type := 2, offset := 2, embedded := false, tag := "", pkgPath := "", byteOffset := 16 }
theorem U_85 : Try.prog.underlying 85 = some (.struct #[fd_85_0, fd_85_1, fd_85_2]) := by kernel_rfl
theorem TA_86 : TA Try.prog 86 3 := ⟨fun w => by kernel_rfl, fun w => by kernel_rfl⟩
theorem TI_86 : TI Try.prog 86 (.agg #[.int .i64 0, .int .i64 0, .int .i64 0]) 3 24 := TI.of (by kernel_rfl) rfl (by decide) (by decide)
def fd_86_0 : Field := { name := "Kind", type := 84, offset := 0, embedded := false, tag := "", pkgPath := "", byteOffset := 0 }
def fd_86_1 : Field := { name := "A", type := 2, offset := 1, embedded := false, tag := "", pkgPath := "", byteOffset := 8 }
def fd_86_2 : Field := { name := "B", type := 2, offset := 2, embedded := false, tag := "", pkgPath := "", byteOffset := 16 }
theorem U_86 : Try.prog.underlying 86 = some (.struct #[fd_86_0, fd_86_1, fd_86_2]) := by kernel_rfl
theorem TA_89 : TA Try.prog 89 5 := ⟨fun w => by kernel_rfl, fun w => by kernel_rfl⟩
theorem TI_89 : TI Try.prog 89 (.agg #[.int .i64 0, .int .i64 0, .int .i64 0, .map none, .int .i64 0]) 5 40 := TI.of (by kernel_rfl) rfl (by decide) (by decide)
def fd_89_0 : Field := { name := "fn", type := 3, offset := 0, embedded := false, tag := "", pkgPath := "palings/sim", byteOffset := 0 }
def fd_89_1 : Field := { name := "block", type := 3, offset := 1, embedded := false, tag := "", pkgPath := "palings/sim", byteOffset := 8 }
def fd_89_2 : Field := { name := "at", type := 3, offset := 2, embedded := false, tag := "", pkgPath := "palings/sim", byteOffset := 16 }
def fd_89_3 : Field := { name := "vals", type := 83, offset := 3, embedded := false, tag := "", pkgPath := "palings/sim", byteOffset := 24 }
def fd_89_4 : Field := { name := "dst", type := 3, offset := 4, embedded := false, tag := "", pkgPath := "palings/sim", byteOffset := 32 }
theorem U_89 : Try.prog.underlying 89 = some (.struct #[fd_89_0, fd_89_1, fd_89_2, fd_89_3, fd_89_4]) := by kernel_rfl
theorem TA_90 : TA Try.prog 90 5 := ⟨fun w => by kernel_rfl, fun w => by kernel_rfl⟩
theorem TI_90 : TI Try.prog 90 (.agg #[.int .i64 0, .int .i64 0, .int .i64 0, .map none, .int .i64 0]) 5 40 := TI.of (by kernel_rfl) rfl (by decide) (by decide)
def fd_90_0 : Field := { name := "fn", type := 3, offset := 0, embedded := false, tag := "", pkgPath := "palings/sim", byteOffset := 0 }
def fd_90_1 : Field := { name := "block", type := 3, offset := 1, embedded := false, tag := "", pkgPath := "palings/sim", byteOffset := 8 }
def fd_90_2 : Field := { name := "at", type := 3, offset := 2, embedded := false, tag := "", pkgPath := "palings/sim", byteOffset := 16 }
def fd_90_3 : Field := { name := "vals", type := 83, offset := 3, embedded := false, tag := "", pkgPath := "palings/sim", byteOffset := 24 }
def fd_90_4 : Field := { name := "dst", type := 3, offset := 4, embedded := false, tag := "", pkgPath := "palings/sim", byteOffset := 32 }
theorem U_90 : Try.prog.underlying 90 = some (.struct #[fd_90_0, fd_90_1, fd_90_2, fd_90_3, fd_90_4]) := by kernel_rfl
theorem T1_91 : T1 Try.prog 91 := ⟨fun w => by kernel_rfl, fun w => by kernel_rfl⟩
theorem TI_91 : TI Try.prog 91 (.pointer none) 1 8 := TI.of (by kernel_rfl) rfl (by decide) (by decide)
theorem U_91 : Try.prog.underlying 91 = some (.pointer 90) := by kernel_rfl
theorem T1_95 : T1 Try.prog 95 := ⟨fun w => by kernel_rfl, fun w => by kernel_rfl⟩
theorem TI_95 : TI Try.prog 95 (.map none) 1 8 := TI.of (by kernel_rfl) rfl (by decide) (by decide)
theorem U_95 : Try.prog.underlying 95 = some (.map 53 3) := by kernel_rfl
theorem T1_99 : T1 Try.prog 99 := ⟨fun w => by kernel_rfl, fun w => by kernel_rfl⟩
theorem TI_99 : TI Try.prog 99 (.slice none 0 0) 1 24 := TI.of (by kernel_rfl) rfl (by decide) (by decide)
theorem U_99 : Try.prog.underlying 99 = some (.slice 4) := by kernel_rfl
theorem T1_105 : T1 Try.prog 105 := ⟨fun w => by kernel_rfl, fun w => by kernel_rfl⟩
theorem TI_105 : TI Try.prog 105 (.int .u64 0) 1 8 := TI.of (by kernel_rfl) rfl (by decide) (by decide)
theorem U_105 : Try.prog.underlying 105 = some (.int .u64) := by kernel_rfl
theorem T1_110 : T1 Try.prog 110 := ⟨fun w => by kernel_rfl, fun w => by kernel_rfl⟩
theorem TI_110 : TI Try.prog 110 (.pointer none) 1 8 := TI.of (by kernel_rfl) rfl (by decide) (by decide)
theorem U_110 : Try.prog.underlying 110 = some (.pointer 2) := by kernel_rfl
theorem T1_120 : T1 Try.prog 120 := ⟨fun w => by kernel_rfl, fun w => by kernel_rfl⟩
theorem TI_120 : TI Try.prog 120 (.int .u32 0) 1 4 := TI.of (by kernel_rfl) rfl (by decide) (by decide)
theorem U_120 : Try.prog.underlying 120 = some (.int .u32) := by kernel_rfl
theorem T1_124 : T1 Try.prog 124 := ⟨fun w => by kernel_rfl, fun w => by kernel_rfl⟩
theorem TI_124 : TI Try.prog 124 (.pointer none) 1 8 := TI.of (by kernel_rfl) rfl (by decide) (by decide)
theorem U_124 : Try.prog.underlying 124 = some (.pointer 5) := by kernel_rfl
theorem F_3 : IsF Try.prog 3 Try.f3 := ⟨Try.func3, rfl, by decide⟩
theorem F_4 : IsF Try.prog 4 Try.f4 := ⟨Try.func4, rfl, by decide⟩
theorem F_5 : IsF Try.prog 5 Try.f5 := ⟨Try.func5, rfl, by decide⟩
theorem F_6 : IsF Try.prog 6 Try.f6 := ⟨Try.func6, rfl, by decide⟩
theorem F_7 : IsF Try.prog 7 Try.f7 := ⟨Try.func7, rfl, by decide⟩
theorem F_8 : IsF Try.prog 8 Try.f8 := ⟨Try.func8, rfl, by decide⟩
theorem F_9 : IsF Try.prog 9 Try.f9 := ⟨Try.func9, rfl, by decide⟩
theorem F_10 : IsF Try.prog 10 Try.f10 := ⟨Try.func10, rfl, by decide⟩
theorem F_11 : IsF Try.prog 11 Try.f11 := ⟨Try.func11, rfl, by decide⟩
theorem F_12 : IsF Try.prog 12 Try.f12 := ⟨Try.func12, rfl, by decide⟩
theorem F_13 : IsF Try.prog 13 Try.f13 := ⟨Try.func13, rfl, by decide⟩
theorem F_14 : IsF Try.prog 14 Try.f14 := ⟨Try.func14, rfl, by decide⟩
theorem F_15 : IsF Try.prog 15 Try.f15 := ⟨Try.func15, rfl, by decide⟩
theorem F_16 : IsF Try.prog 16 Try.f16 := ⟨Try.func16, rfl, by decide⟩
theorem F_17 : IsF Try.prog 17 Try.f17 := ⟨Try.func17, rfl, by decide⟩
theorem F_18 : IsF Try.prog 18 Try.f18 := ⟨Try.func18, rfl, by decide⟩
theorem F_19 : IsF Try.prog 19 Try.f19 := ⟨Try.func19, rfl, by decide⟩
theorem F_20 : IsF Try.prog 20 Try.f20 := ⟨Try.func20, rfl, by decide⟩
theorem F_21 : IsF Try.prog 21 Try.f21 := ⟨Try.func21, rfl, by decide⟩
theorem F_22 : IsF Try.prog 22 Try.f22 := ⟨Try.func22, rfl, by decide⟩
theorem F_23 : IsF Try.prog 23 Try.f23 := ⟨Try.func23, rfl, by decide⟩
theorem F_24 : IsF Try.prog 24 Try.f24 := ⟨Try.func24, rfl, by decide⟩
theorem F_25 : IsF Try.prog 25 Try.f25 := ⟨Try.func25, rfl, by decide⟩
theorem F_26 : IsF Try.prog 26 Try.f26 := ⟨Try.func26, rfl, by decide⟩
theorem F_27 : IsF Try.prog 27 Try.f27 := ⟨Try.func27, rfl, by decide⟩
theorem F_28 : IsF Try.prog 28 Try.f28 := ⟨Try.func28, rfl, by decide⟩
theorem F_29 : IsF Try.prog 29 Try.f29 := ⟨Try.func29, rfl, by decide⟩
theorem F_30 : IsF Try.prog 30 Try.f30 := ⟨Try.func30, rfl, by decide⟩
theorem F_31 : IsF Try.prog 31 Try.f31 := ⟨Try.func31, rfl, by decide⟩
theorem F_32 : IsF Try.prog 32 Try.f32 := ⟨Try.func32, rfl, by decide⟩
theorem F_33 : IsF Try.prog 33 Try.f33 := ⟨Try.func33, rfl, by decide⟩
theorem F_34 : IsF Try.prog 34 Try.f34 := ⟨Try.func34, rfl, by decide⟩
theorem F_35 : IsF Try.prog 35 Try.f35 := ⟨Try.func35, rfl, by decide⟩
theorem F_36 : IsF Try.prog 36 Try.f36 := ⟨Try.func36, rfl, by decide⟩
theorem F_37 : IsF Try.prog 37 Try.f37 := ⟨Try.func37, rfl, by decide⟩
theorem F_38 : IsF Try.prog 38 Try.f38 := ⟨Try.func38, rfl, by decide⟩
theorem F_39 : IsF Try.prog 39 Try.f39 := ⟨Try.func39, rfl, by decide⟩
theorem F_40 : IsF Try.prog 40 Try.f40 := ⟨Try.func40, rfl, by decide⟩
theorem F_41 : IsF Try.prog 41 Try.f41 := ⟨Try.func41, rfl, by decide⟩
theorem F_42 : IsF Try.prog 42 Try.f42 := ⟨Try.func42, rfl, by decide⟩
theorem F_43 : IsF Try.prog 43 Try.f43 := ⟨Try.func43, rfl, by decide⟩
theorem F_44 : IsF Try.prog 44 Try.f44 := ⟨Try.func44, rfl, by decide⟩
theorem F_45 : IsF Try.prog 45 Try.f45 := ⟨Try.func45, rfl, by decide⟩
theorem F_46 : IsF Try.prog 46 Try.f46 := ⟨Try.func46, rfl, by decide⟩
theorem F_47 : IsF Try.prog 47 Try.f47 := ⟨Try.func47, rfl, by decide⟩
end Go.Proofs.Ytoknjpmlloikhaa
