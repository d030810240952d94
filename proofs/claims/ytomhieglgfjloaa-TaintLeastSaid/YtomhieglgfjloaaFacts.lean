/- The facts of this program's types and functions (written by a program). -/
import Derived.Test.YtomhieglgfjloaaK1
import Derived.Test.YtomhieglgfjloaaProg
import Derived.KernelRfl
namespace Go.Proofs.Ytomhieglgfjloaa
set_option linter.unusedVariables false
set_option linter.unusedSimpArgs false
open Go Go.RowKit

theorem T1_2 : T1 Try.prog 2 := ⟨fun w => by kernel_rfl, fun w => by kernel_rfl⟩
theorem TI_2 : TI Try.prog 2 (.int .i64 0) 1 8 := TI.of (by kernel_rfl) rfl (by decide) (by decide)
theorem U_2 : Try.prog.underlying 2 = some (.int .i64) := by kernel_rfl
theorem T1_3 : T1 Try.prog 3 := ⟨fun w => by kernel_rfl, fun w => by kernel_rfl⟩
theorem TI_3 : TI Try.prog 3 (.int .i64 0) 1 8 := TI.of (by kernel_rfl) rfl (by decide) (by decide)
theorem U_3 : Try.prog.underlying 3 = some (.int .i64) := by kernel_rfl
theorem T1_4 : T1 Try.prog 4 := ⟨fun w => by kernel_rfl, fun w => by kernel_rfl⟩
theorem TI_4 : TI Try.prog 4 (.bool false) 1 1 := TI.of (by kernel_rfl) rfl (by decide) (by decide)
theorem U_4 : Try.prog.underlying 4 = some .bool := by kernel_rfl
theorem T1_5 : T1 Try.prog 5 := ⟨fun w => by kernel_rfl, fun w => by kernel_rfl⟩
theorem TI_5 : TI Try.prog 5 (.int .u8 0) 1 1 := TI.of (by kernel_rfl) rfl (by decide) (by decide)
theorem U_5 : Try.prog.underlying 5 = some (.int .u8) := by kernel_rfl
theorem T1_9 : T1 Try.prog 9 := ⟨fun w => by kernel_rfl, fun w => by kernel_rfl⟩
theorem TI_9 : TI Try.prog 9 (.string ⟨#[]⟩) 1 16 := TI.of (by kernel_rfl) rfl (by decide) (by decide)
theorem U_9 : Try.prog.underlying 9 = some .string := by kernel_rfl
theorem T1_12 : T1 Try.prog 12 := ⟨fun w => by kernel_rfl, fun w => by kernel_rfl⟩
theorem TI_12 : TI Try.prog 12 (.int .u64 0) 1 8 := TI.of (by kernel_rfl) rfl (by decide) (by decide)
theorem U_12 : Try.prog.underlying 12 = some (.int .u64) := by kernel_rfl
theorem TA_13 : TA Try.prog 13 2 := ⟨fun w => by kernel_rfl, fun w => by kernel_rfl⟩
theorem TI_13 : TI Try.prog 13 (.agg #[.string ⟨#[]⟩, .int .u64 0]) 2 24 := TI.of (by kernel_rfl) rfl (by decide) (by decide)
def fd_13_0 : Field := { name := "msg", type := 9, offset := 0, embedded := false, tag := "", pkgPath := "runtime", byteOffset := 0 }
def fd_13_1 : Field := { name := "addr", type := 12, offset := 1, embedded := false, tag := "", pkgPath := "runtime", byteOffset := 16 }
theorem U_13 : Try.prog.underlying 13 = some (.struct #[fd_13_0, fd_13_1]) := by kernel_rfl
theorem T1_21 : T1 Try.prog 21 := ⟨fun w => by kernel_rfl, fun w => by kernel_rfl⟩
theorem TI_21 : TI Try.prog 21 (.int .i32 0) 1 4 := TI.of (by kernel_rfl) rfl (by decide) (by decide)
theorem U_21 : Try.prog.underlying 21 = some (.int .i32) := by kernel_rfl
theorem T1_22 : T1 Try.prog 22 := ⟨fun w => by kernel_rfl, fun w => by kernel_rfl⟩
theorem TI_22 : TI Try.prog 22 (.slice none 0 0) 1 24 := TI.of (by kernel_rfl) rfl (by decide) (by decide)
theorem U_22 : Try.prog.underlying 22 = some (.slice 66) := by kernel_rfl
theorem T1_23 : T1 Try.prog 23 := ⟨fun w => by kernel_rfl, fun w => by kernel_rfl⟩
theorem TI_23 : TI Try.prog 23 (.slice none 0 0) 1 24 := TI.of (by kernel_rfl) rfl (by decide) (by decide)
theorem U_23 : Try.prog.underlying 23 = some (.slice 46) := by kernel_rfl
theorem TA_24 : TA Try.prog 24 3 := ⟨fun w => by kernel_rfl, fun w => by kernel_rfl⟩
theorem TI_24 : TI Try.prog 24 (.agg #[.slice none 0 0, .slice none 0 0, .int .i64 0]) 3 56 := TI.of (by kernel_rfl) rfl (by decide) (by decide)
def fd_24_0 : Field := { name := "Arrays", type := 22, offset := 0, embedded := false, tag := "", pkgPath := "", byteOffset := 0 }
def fd_24_1 : Field := { name := "Funcs", type := 23, offset := 1, embedded := false, tag := "", pkgPath := "", byteOffset := 24 }
def fd_24_2 : Field := { name := "Main", type := 3, offset := 2, embedded := false, tag := "", pkgPath := "", byteOffset := 48 }
theorem U_24 : Try.prog.underlying 24 = some (.struct #[fd_24_0, fd_24_1, fd_24_2]) := by kernel_rfl
theorem TA_25 : TA Try.prog 25 3 := ⟨fun w => by kernel_rfl, fun w => by kernel_rfl⟩
theorem TI_25 : TI Try.prog 25 (.agg #[.slice none 0 0, .slice none 0 0, .int .i64 0]) 3 56 := TI.of (by kernel_rfl) rfl (by decide) (by decide)
def fd_25_0 : Field := { name := "Arrays", type := 22, offset := 0, embedded := false, tag := "", pkgPath := "", byteOffset := 0 }
def fd_25_1 : Field := { name := "Funcs", type := 23, offset := 1, embedded := false, tag := "", pkgPath := "", byteOffset := 24 }
def fd_25_2 : Field := { name := "Main", type := 3, offset := 2, embedded := false, tag := "", pkgPath := "", byteOffset := 48 }
theorem U_25 : Try.prog.underlying 25 = some (.struct #[fd_25_0, fd_25_1, fd_25_2]) := by kernel_rfl
theorem T1_26 : T1 Try.prog 26 := ⟨fun w => by kernel_rfl, fun w => by kernel_rfl⟩
theorem TI_26 : TI Try.prog 26 (.slice none 0 0) 1 24 := TI.of (by kernel_rfl) rfl (by decide) (by decide)
theorem U_26 : Try.prog.underlying 26 = some (.slice 29) := by kernel_rfl
theorem T1_29 : T1 Try.prog 29 := ⟨fun w => by kernel_rfl, fun w => by kernel_rfl⟩
theorem TI_29 : TI Try.prog 29 (.map none) 1 8 := TI.of (by kernel_rfl) rfl (by decide) (by decide)
theorem U_29 : Try.prog.underlying 29 = some (.map 3 4) := by kernel_rfl
theorem T1_30 : T1 Try.prog 30 := ⟨fun w => by kernel_rfl, fun w => by kernel_rfl⟩
theorem TI_30 : TI Try.prog 30 (.slice none 0 0) 1 24 := TI.of (by kernel_rfl) rfl (by decide) (by decide)
theorem U_30 : Try.prog.underlying 30 = some (.slice 56) := by kernel_rfl
theorem T1_31 : T1 Try.prog 31 := ⟨fun w => by kernel_rfl, fun w => by kernel_rfl⟩
theorem TI_31 : TI Try.prog 31 (.slice none 0 0) 1 24 := TI.of (by kernel_rfl) rfl (by decide) (by decide)
theorem U_31 : Try.prog.underlying 31 = some (.slice 42) := by kernel_rfl
theorem TA_32 : TA Try.prog 32 4 := ⟨fun w => by kernel_rfl, fun w => by kernel_rfl⟩
theorem TI_32 : TI Try.prog 32 (.agg #[.slice none 0 0, .slice none 0 0, .slice none 0 0, .slice none 0 0]) 4 96 := TI.of (by kernel_rfl) rfl (by decide) (by decide)
def fd_32_0 : Field := { name := "Vals", type := 30, offset := 0, embedded := false, tag := "", pkgPath := "", byteOffset := 0 }
def fd_32_1 : Field := { name := "Arrays", type := 31, offset := 1, embedded := false, tag := "", pkgPath := "", byteOffset := 24 }
def fd_32_2 : Field := { name := "Rets", type := 31, offset := 2, embedded := false, tag := "", pkgPath := "", byteOffset := 48 }
def fd_32_3 : Field := { name := "Cut", type := 26, offset := 3, embedded := false, tag := "", pkgPath := "", byteOffset := 72 }
theorem U_32 : Try.prog.underlying 32 = some (.struct #[fd_32_0, fd_32_1, fd_32_2, fd_32_3]) := by kernel_rfl
theorem TA_33 : TA Try.prog 33 4 := ⟨fun w => by kernel_rfl, fun w => by kernel_rfl⟩
theorem TI_33 : TI Try.prog 33 (.agg #[.slice none 0 0, .slice none 0 0, .slice none 0 0, .slice none 0 0]) 4 96 := TI.of (by kernel_rfl) rfl (by decide) (by decide)
def fd_33_0 : Field := { name := "Vals", type := 30, offset := 0, embedded := false, tag := "", pkgPath := "", byteOffset := 0 }
def fd_33_1 : Field := { name := "Arrays", type := 31, offset := 1, embedded := false, tag := "", pkgPath := "", byteOffset := 24 }
def fd_33_2 : Field := { name := "Rets", type := 31, offset := 2, embedded := false, tag := "", pkgPath := "", byteOffset := 48 }
def fd_33_3 : Field := { name := "Cut", type := 26, offset := 3, embedded := false, tag := "", pkgPath := "", byteOffset := 72 }
theorem U_33 : Try.prog.underlying 33 = some (.struct #[fd_33_0, fd_33_1, fd_33_2, fd_33_3]) := by kernel_rfl
theorem T1_34 : T1 Try.prog 34 := ⟨fun w => by kernel_rfl, fun w => by kernel_rfl⟩
theorem TI_34 : TI Try.prog 34 (.int .i64 0) 1 8 := TI.of (by kernel_rfl) rfl (by decide) (by decide)
theorem U_34 : Try.prog.underlying 34 = some (.int .i64) := by kernel_rfl
theorem T1_38 : T1 Try.prog 38 := ⟨fun w => by kernel_rfl, fun w => by kernel_rfl⟩
theorem TI_38 : TI Try.prog 38 (.slice none 0 0) 1 24 := TI.of (by kernel_rfl) rfl (by decide) (by decide)
theorem U_38 : Try.prog.underlying 38 = some (.slice 4) := by kernel_rfl
theorem TA_39 : TA Try.prog 39 3 := ⟨fun w => by kernel_rfl, fun w => by kernel_rfl⟩
theorem TI_39 : TI Try.prog 39 (.agg #[.slice none 0 0, .slice none 0 0, .slice none 0 0]) 3 72 := TI.of (by kernel_rfl) rfl (by decide) (by decide)
def fd_39_0 : Field := { name := "vals", type := 26, offset := 0, embedded := false, tag := "", pkgPath := "palings/palingslaw12", byteOffset := 0 }
def fd_39_1 : Field := { name := "arrays", type := 38, offset := 1, embedded := false, tag := "", pkgPath := "palings/palingslaw12", byteOffset := 24 }
def fd_39_2 : Field := { name := "rets", type := 38, offset := 2, embedded := false, tag := "", pkgPath := "palings/palingslaw12", byteOffset := 48 }
theorem U_39 : Try.prog.underlying 39 = some (.struct #[fd_39_0, fd_39_1, fd_39_2]) := by kernel_rfl
theorem TA_40 : TA Try.prog 40 3 := ⟨fun w => by kernel_rfl, fun w => by kernel_rfl⟩
theorem TI_40 : TI Try.prog 40 (.agg #[.slice none 0 0, .slice none 0 0, .slice none 0 0]) 3 72 := TI.of (by kernel_rfl) rfl (by decide) (by decide)
def fd_40_0 : Field := { name := "vals", type := 26, offset := 0, embedded := false, tag := "", pkgPath := "palings/palingslaw12", byteOffset := 0 }
def fd_40_1 : Field := { name := "arrays", type := 38, offset := 1, embedded := false, tag := "", pkgPath := "palings/palingslaw12", byteOffset := 24 }
def fd_40_2 : Field := { name := "rets", type := 38, offset := 2, embedded := false, tag := "", pkgPath := "palings/palingslaw12", byteOffset := 48 }
theorem U_40 : Try.prog.underlying 40 = some (.struct #[fd_40_0, fd_40_1, fd_40_2]) := by kernel_rfl
theorem T1_42 : T1 Try.prog 42 := ⟨fun w => by kernel_rfl, fun w => by kernel_rfl⟩
theorem TI_42 : TI Try.prog 42 (.int .i64 0) 1 8 := TI.of (by kernel_rfl) rfl (by decide) (by decide)
theorem U_42 : Try.prog.underlying 42 = some (.int .i64) := by kernel_rfl
theorem T1_44 : T1 Try.prog 44 := ⟨fun w => by kernel_rfl, fun w => by kernel_rfl⟩
theorem TI_44 : TI Try.prog 44 (.slice none 0 0) 1 24 := TI.of (by kernel_rfl) rfl (by decide) (by decide)
theorem U_44 : Try.prog.underlying 44 = some (.slice 55) := by kernel_rfl
theorem TA_45 : TA Try.prog 45 2 := ⟨fun w => by kernel_rfl, fun w => by kernel_rfl⟩
theorem TI_45 : TI Try.prog 45 (.agg #[.string ⟨#[]⟩, .slice none 0 0]) 2 40 := TI.of (by kernel_rfl) rfl (by decide) (by decide)
def fd_45_0 : Field := { name := "Name", type := 9, offset := 0, embedded := false, tag := "", pkgPath := "", byteOffset := 0 }
def fd_45_1 : Field := { name := "Blocks", type := 44, offset := 1, embedded := false, tag := "", pkgPath := "", byteOffset := 16 }
theorem U_45 : Try.prog.underlying 45 = some (.struct #[fd_45_0, fd_45_1]) := by kernel_rfl
theorem TA_46 : TA Try.prog 46 2 := ⟨fun w => by kernel_rfl, fun w => by kernel_rfl⟩
theorem TI_46 : TI Try.prog 46 (.agg #[.string ⟨#[]⟩, .slice none 0 0]) 2 40 := TI.of (by kernel_rfl) rfl (by decide) (by decide)
def fd_46_0 : Field := { name := "Name", type := 9, offset := 0, embedded := false, tag := "", pkgPath := "", byteOffset := 0 }
def fd_46_1 : Field := { name := "Blocks", type := 44, offset := 1, embedded := false, tag := "", pkgPath := "", byteOffset := 16 }
theorem U_46 : Try.prog.underlying 46 = some (.struct #[fd_46_0, fd_46_1]) := by kernel_rfl
theorem T1_47 : T1 Try.prog 47 := ⟨fun w => by kernel_rfl, fun w => by kernel_rfl⟩
theorem TI_47 : TI Try.prog 47 (.slice none 0 0) 1 24 := TI.of (by kernel_rfl) rfl (by decide) (by decide)
theorem U_47 : Try.prog.underlying 47 = some (.slice 3) := by kernel_rfl
theorem T1_48 : T1 Try.prog 48 := ⟨fun w => by kernel_rfl, fun w => by kernel_rfl⟩
theorem TI_48 : TI Try.prog 48 (.slice none 0 0) 1 24 := TI.of (by kernel_rfl) rfl (by decide) (by decide)
theorem U_48 : Try.prog.underlying 48 = some (.slice 60) := by kernel_rfl
theorem T1_49 : T1 Try.prog 49 := ⟨fun w => by kernel_rfl, fun w => by kernel_rfl⟩
theorem TI_49 : TI Try.prog 49 (.int .i64 0) 1 8 := TI.of (by kernel_rfl) rfl (by decide) (by decide)
theorem U_49 : Try.prog.underlying 49 = some (.int .i64) := by kernel_rfl
theorem T1_50 : T1 Try.prog 50 := ⟨fun w => by kernel_rfl, fun w => by kernel_rfl⟩
theorem TI_50 : TI Try.prog 50 (.slice none 0 0) 1 24 := TI.of (by kernel_rfl) rfl (by decide) (by decide)
theorem U_50 : Try.prog.underlying 50 = some (.slice 74) := by kernel_rfl
theorem T1_51 : T1 Try.prog 51 := ⟨fun w => by kernel_rfl, fun w => by kernel_rfl⟩
theorem TI_51 : TI Try.prog 51 (.int .i64 0) 1 8 := TI.of (by kernel_rfl) rfl (by decide) (by decide)
theorem U_51 : Try.prog.underlying 51 = some (.int .i64) := by kernel_rfl
theorem TA_52 : TA Try.prog 52 4 := ⟨fun w => by kernel_rfl, fun w => by kernel_rfl⟩
theorem TI_52 : TI Try.prog 52 (.agg #[.int .i64 0, .int .i64 0, .slice none 0 0, .int .i64 0]) 4 48 := TI.of (by kernel_rfl) rfl (by decide) (by decide)
def fd_52_0 : Field := { name := "Kind", type := 49, offset := 0, embedded := false, tag := "", pkgPath := "", byteOffset := 0 }
def fd_52_1 : Field := { name := "Val", type := 3, offset := 1, embedded := false, tag := "", pkgPath := "", byteOffset := 8 }
def fd_52_2 : Field := { name := "Ways", type := 50, offset := 2, embedded := false, tag := "", pkgPath := "", byteOffset := 16 }
def fd_52_3 : Field := { name := "Trap", type := 51, offset := 3, embedded := false, tag := "", pkgPath := "", byteOffset := 40 }
theorem U_52 : Try.prog.underlying 52 = some (.struct #[fd_52_0, fd_52_1, fd_52_2, fd_52_3]) := by kernel_rfl
theorem TA_53 : TA Try.prog 53 4 := ⟨fun w => by kernel_rfl, fun w => by kernel_rfl⟩
theorem TI_53 : TI Try.prog 53 (.agg #[.int .i64 0, .int .i64 0, .slice none 0 0, .int .i64 0]) 4 48 := TI.of (by kernel_rfl) rfl (by decide) (by decide)
def fd_53_0 : Field := { name := "Kind", type := 49, offset := 0, embedded := false, tag := "", pkgPath := "", byteOffset := 0 }
def fd_53_1 : Field := { name := "Val", type := 3, offset := 1, embedded := false, tag := "", pkgPath := "", byteOffset := 8 }
def fd_53_2 : Field := { name := "Ways", type := 50, offset := 2, embedded := false, tag := "", pkgPath := "", byteOffset := 16 }
def fd_53_3 : Field := { name := "Trap", type := 51, offset := 3, embedded := false, tag := "", pkgPath := "", byteOffset := 40 }
theorem U_53 : Try.prog.underlying 53 = some (.struct #[fd_53_0, fd_53_1, fd_53_2, fd_53_3]) := by kernel_rfl
theorem TA_54 : TA Try.prog 54 6 := ⟨fun w => by kernel_rfl, fun w => by kernel_rfl⟩
theorem TI_54 : TI Try.prog 54 (.agg #[.slice none 0 0, .slice none 0 0, .int .i64 0, .int .i64 0, .slice none 0 0, .int .i64 0]) 6 96 := TI.of (by kernel_rfl) rfl (by decide) (by decide)
def fd_54_0 : Field := { name := "Params", type := 47, offset := 0, embedded := false, tag := "", pkgPath := "", byteOffset := 0 }
def fd_54_1 : Field := { name := "Ins", type := 48, offset := 1, embedded := false, tag := "", pkgPath := "", byteOffset := 24 }
def fd_54_2 : Field := { name := "End", type := 53, offset := 2, embedded := false, tag := "", pkgPath := "", byteOffset := 48 }
theorem U_54 : Try.prog.underlying 54 = some (.struct #[fd_54_0, fd_54_1, fd_54_2]) := by kernel_rfl
theorem TA_55 : TA Try.prog 55 6 := ⟨fun w => by kernel_rfl, fun w => by kernel_rfl⟩
theorem TI_55 : TI Try.prog 55 (.agg #[.slice none 0 0, .slice none 0 0, .int .i64 0, .int .i64 0, .slice none 0 0, .int .i64 0]) 6 96 := TI.of (by kernel_rfl) rfl (by decide) (by decide)
def fd_55_0 : Field := { name := "Params", type := 47, offset := 0, embedded := false, tag := "", pkgPath := "", byteOffset := 0 }
def fd_55_1 : Field := { name := "Ins", type := 48, offset := 1, embedded := false, tag := "", pkgPath := "", byteOffset := 24 }
def fd_55_2 : Field := { name := "End", type := 53, offset := 2, embedded := false, tag := "", pkgPath := "", byteOffset := 48 }
theorem U_55 : Try.prog.underlying 55 = some (.struct #[fd_55_0, fd_55_1, fd_55_2]) := by kernel_rfl
theorem T1_56 : T1 Try.prog 56 := ⟨fun w => by kernel_rfl, fun w => by kernel_rfl⟩
theorem TI_56 : TI Try.prog 56 (.map none) 1 8 := TI.of (by kernel_rfl) rfl (by decide) (by decide)
theorem U_56 : Try.prog.underlying 56 = some (.map 3 42) := by kernel_rfl
theorem T1_57 : T1 Try.prog 57 := ⟨fun w => by kernel_rfl, fun w => by kernel_rfl⟩
theorem TI_57 : TI Try.prog 57 (.int .i64 0) 1 8 := TI.of (by kernel_rfl) rfl (by decide) (by decide)
theorem U_57 : Try.prog.underlying 57 = some (.int .i64) := by kernel_rfl
theorem T1_58 : T1 Try.prog 58 := ⟨fun w => by kernel_rfl, fun w => by kernel_rfl⟩
theorem TI_58 : TI Try.prog 58 (.int .i64 0) 1 8 := TI.of (by kernel_rfl) rfl (by decide) (by decide)
theorem U_58 : Try.prog.underlying 58 = some (.int .i64) := by kernel_rfl
theorem TA_59 : TA Try.prog 59 7 := ⟨fun w => by kernel_rfl, fun w => by kernel_rfl⟩
theorem TI_59 : TI Try.prog 59 (.agg #[.int .i64 0, .int .i64 0, .slice none 0 0, .int .i64 0, .int .i64 0, .int .i64 0, .int .i64 0]) 7 72 := TI.of (by kernel_rfl) rfl (by decide) (by decide)
def fd_59_0 : Field := { name := "Op", type := 57, offset := 0, embedded := false, tag := "", pkgPath := "", byteOffset := 0 }
def fd_59_1 : Field := { name := "Dst", type := 3, offset := 1, embedded := false, tag := "", pkgPath := "", byteOffset := 8 }
def fd_59_2 : Field := { name := "Args", type := 47, offset := 2, embedded := false, tag := "", pkgPath := "", byteOffset := 16 }
def fd_59_3 : Field := { name := "Num", type := 2, offset := 3, embedded := false, tag := "", pkgPath := "", byteOffset := 40 }
def fd_59_4 : Field := { name := "Bin", type := 58, offset := 4, embedded := false, tag := "", pkgPath := "", byteOffset := 48 }
def fd_59_5 : Field := { name := "Arr", type := 3, offset := 5, embedded := false, tag := "", pkgPath := "", byteOffset := 56 }
def fd_59_6 : Field := { name := "Fn", type := 3, offset := 6, embedded := false, tag := "", pkgPath := "", byteOffset := 64 }
theorem U_59 : Try.prog.underlying 59 = some (.struct #[fd_59_0, fd_59_1, fd_59_2, fd_59_3, fd_59_4, fd_59_5, fd_59_6]) := by kernel_rfl
theorem TA_60 : TA Try.prog 60 7 := ⟨fun w => by kernel_rfl, fun w => by kernel_rfl⟩
theorem TI_60 : TI Try.prog 60 (.agg #[.int .i64 0, .int .i64 0, .slice none 0 0, .int .i64 0, .int .i64 0, .int .i64 0, .int .i64 0]) 7 72 := TI.of (by kernel_rfl) rfl (by decide) (by decide)
def fd_60_0 : Field := { name := "Op", type := 57, offset := 0, embedded := false, tag := "", pkgPath := "", byteOffset := 0 }
def fd_60_1 : Field := { name := "Dst", type := 3, offset := 1, embedded := false, tag := "", pkgPath := "", byteOffset := 8 }
def fd_60_2 : Field := { name := "Args", type := 47, offset := 2, embedded := false, tag := "", pkgPath := "", byteOffset := 16 }
def fd_60_3 : Field := { name := "Num", type := 2, offset := 3, embedded := false, tag := "", pkgPath := "", byteOffset := 40 }
def fd_60_4 : Field := { name := "Bin", type := 58, offset := 4, embedded := false, tag := "", pkgPath := "", byteOffset := 48 }
def fd_60_5 : Field := { name := "Arr", type := 3, offset := 5, embedded := false, tag := "", pkgPath := "", byteOffset := 56 }
def fd_60_6 : Field := { name := "Fn", type := 3, offset := 6, embedded := false, tag := "", pkgPath := "", byteOffset := 64 }
theorem U_60 : Try.prog.underlying 60 = some (.struct #[fd_60_0, fd_60_1, fd_60_2, fd_60_3, fd_60_4, fd_60_5, fd_60_6]) := by kernel_rfl
theorem T1_64 : T1 Try.prog 64 := ⟨fun w => by kernel_rfl, fun w => by kernel_rfl⟩
theorem TI_64 : TI Try.prog 64 (.int .i64 0) 1 8 := TI.of (by kernel_rfl) rfl (by decide) (by decide)
theorem U_64 : Try.prog.underlying 64 = some (.int .i64) := by kernel_rfl
theorem TA_65 : TA Try.prog 65 3 := ⟨fun w => by kernel_rfl, fun w => by kernel_rfl⟩
theorem TI_65 : TI Try.prog 65 (.agg #[.string ⟨#[]⟩, .int .i64 0, .int .i64 0]) 3 32 := TI.of (by kernel_rfl) rfl (by decide) (by decide)
def fd_65_0 : Field := { name := "Name", type := 9, offset := 0, embedded := false, tag := "", pkgPath := "", byteOffset := 0 }
def fd_65_1 : Field := { name := "Hold", type := 64, offset := 1, embedded := false, tag := "", pkgPath := "", byteOffset := 16 }
def fd_65_2 : Field := { name := "Size", type := 3, offset := 2, embedded := false, tag := "", pkgPath := "", byteOffset := 24 }
theorem U_65 : Try.prog.underlying 65 = some (.struct #[fd_65_0, fd_65_1, fd_65_2]) := by kernel_rfl
theorem TA_66 : TA Try.prog 66 3 := ⟨fun w => by kernel_rfl, fun w => by kernel_rfl⟩
theorem TI_66 : TI Try.prog 66 (.agg #[.string ⟨#[]⟩, .int .i64 0, .int .i64 0]) 3 32 := TI.of (by kernel_rfl) rfl (by decide) (by decide)
def fd_66_0 : Field := { name := "Name", type := 9, offset := 0, embedded := false, tag := "", pkgPath := "", byteOffset := 0 }
def fd_66_1 : Field := { name := "Hold", type := 64, offset := 1, embedded := false, tag := "", pkgPath := "", byteOffset := 16 }
def fd_66_2 : Field := { name := "Size", type := 3, offset := 2, embedded := false, tag := "", pkgPath := "", byteOffset := 24 }
theorem U_66 : Try.prog.underlying 66 = some (.struct #[fd_66_0, fd_66_1, fd_66_2]) := by kernel_rfl
theorem T1_67 : T1 Try.prog 67 := ⟨fun w => by kernel_rfl, fun w => by kernel_rfl⟩
theorem TI_67 : TI Try.prog 67 (.slice none 0 0) 1 24 := TI.of (by kernel_rfl) rfl (by decide) (by decide)
theorem U_67 : Try.prog.underlying 67 = some (.slice 69) := by kernel_rfl
theorem TA_68 : TA Try.prog 68 5 := ⟨fun w => by kernel_rfl, fun w => by kernel_rfl⟩
theorem TI_68 : TI Try.prog 68 (.agg #[.int .i64 0, .int .i64 0, .int .i64 0, .int .i64 0, .int .i64 0]) 5 40 := TI.of (by kernel_rfl) rfl (by decide) (by decide)
def fd_68_0 : Field := { name := "Fn", type := 3, offset := 0, embedded := false, tag := "", pkgPath := "", byteOffset := 0 }
def fd_68_1 : Field := { name := "Block", type := 3, offset := 1, embedded := false, tag := "", pkgPath := "", byteOffset := 8 }
def fd_68_2 : Field := { name := "At", type := 3, offset := 2, embedded := false, tag := "", pkgPath := "", byteOffset := 16 }
def fd_68_3 : Field := { name := "Val", type := 3, offset := 3, embedded := false, tag := "", pkgPath := "", byteOffset := 24 }
def fd_68_4 : Field := { name := "Label", type := 42, offset := 4, embedded := false, tag := "", pkgPath := "", byteOffset := 32 }
theorem U_68 : Try.prog.underlying 68 = some (.struct #[fd_68_0, fd_68_1, fd_68_2, fd_68_3, fd_68_4]) := by kernel_rfl
theorem TA_69 : TA Try.prog 69 5 := ⟨fun w => by kernel_rfl, fun w => by kernel_rfl⟩
theorem TI_69 : TI Try.prog 69 (.agg #[.int .i64 0, .int .i64 0, .int .i64 0, .int .i64 0, .int .i64 0]) 5 40 := TI.of (by kernel_rfl) rfl (by decide) (by decide)
def fd_69_0 : Field := { name := "Fn", type := 3, offset := 0, embedded := false, tag := "", pkgPath := "", byteOffset := 0 }
def fd_69_1 : Field := { name := "Block", type := 3, offset := 1, embedded := false, tag := "", pkgPath := "", byteOffset := 8 }
def fd_69_2 : Field := { name := "At", type := 3, offset := 2, embedded := false, tag := "", pkgPath := "", byteOffset := 16 }
def fd_69_3 : Field := { name := "Val", type := 3, offset := 3, embedded := false, tag := "", pkgPath := "", byteOffset := 24 }
def fd_69_4 : Field := { name := "Label", type := 42, offset := 4, embedded := false, tag := "", pkgPath := "", byteOffset := 32 }
theorem U_69 : Try.prog.underlying 69 = some (.struct #[fd_69_0, fd_69_1, fd_69_2, fd_69_3, fd_69_4]) := by kernel_rfl
theorem TA_73 : TA Try.prog 73 2 := ⟨fun w => by kernel_rfl, fun w => by kernel_rfl⟩
theorem TI_73 : TI Try.prog 73 (.agg #[.int .i64 0, .slice none 0 0]) 2 32 := TI.of (by kernel_rfl) rfl (by decide) (by decide)
def fd_73_0 : Field := { name := "To", type := 3, offset := 0, embedded := false, tag := "", pkgPath := "", byteOffset := 0 }
def fd_73_1 : Field := { name := "Args", type := 47, offset := 1, embedded := false, tag := "", pkgPath := "", byteOffset := 8 }
theorem U_73 : Try.prog.underlying 73 = some (.struct #[fd_73_0, fd_73_1]) := by kernel_rfl
theorem TA_74 : TA Try.prog 74 2 := ⟨fun w => by kernel_rfl, fun w => by kernel_rfl⟩
theorem TI_74 : TI Try.prog 74 (.agg #[.int .i64 0, .slice none 0 0]) 2 32 := TI.of (by kernel_rfl) rfl (by decide) (by decide)
def fd_74_0 : Field := { name := "To", type := 3, offset := 0, embedded := false, tag := "", pkgPath := "", byteOffset := 0 }
def fd_74_1 : Field := { name := "Args", type := 47, offset := 1, embedded := false, tag := "", pkgPath := "", byteOffset := 8 }
theorem U_74 : Try.prog.underlying 74 = some (.struct #[fd_74_0, fd_74_1]) := by kernel_rfl
theorem T1_75 : T1 Try.prog 75 := ⟨fun w => by kernel_rfl, fun w => by kernel_rfl⟩
theorem TI_75 : TI Try.prog 75 (.pointer none) 1 8 := TI.of (by kernel_rfl) rfl (by decide) (by decide)
theorem U_75 : Try.prog.underlying 75 = some (.pointer 78) := by kernel_rfl
theorem TA_77 : TA Try.prog 77 9 := ⟨fun w => by kernel_rfl, fun w => by kernel_rfl⟩
theorem TI_77 : TI Try.prog 77 (.agg #[.slice none 0 0, .slice none 0 0, .int .i64 0, .slice none 0 0, .slice none 0 0, .slice none 0 0, .slice none 0 0, .slice none 0 0, .bool false]) 9 184 := TI.of (by kernel_rfl) rfl (by decide) (by decide)
def fd_77_0 : Field := { name := "p", type := 25, offset := 0, embedded := false, tag := "", pkgPath := "palings/taint", byteOffset := 0 }
def fd_77_1 : Field := { name := "l", type := 33, offset := 3, embedded := false, tag := "", pkgPath := "palings/taint", byteOffset := 56 }
def fd_77_2 : Field := { name := "writes", type := 38, offset := 7, embedded := false, tag := "", pkgPath := "palings/taint", byteOffset := 152 }
def fd_77_3 : Field := { name := "turned", type := 4, offset := 8, embedded := false, tag := "", pkgPath := "palings/taint", byteOffset := 176 }
theorem U_77 : Try.prog.underlying 77 = some (.struct #[fd_77_0, fd_77_1, fd_77_2, fd_77_3]) := by kernel_rfl
theorem TA_78 : TA Try.prog 78 9 := ⟨fun w => by kernel_rfl, fun w => by kernel_rfl⟩
theorem TI_78 : TI Try.prog 78 (.agg #[.slice none 0 0, .slice none 0 0, .int .i64 0, .slice none 0 0, .slice none 0 0, .slice none 0 0, .slice none 0 0, .slice none 0 0, .bool false]) 9 184 := TI.of (by kernel_rfl) rfl (by decide) (by decide)
def fd_78_0 : Field := { name := "p", type := 25, offset := 0, embedded := false, tag := "", pkgPath := "palings/taint", byteOffset := 0 }
def fd_78_1 : Field := { name := "l", type := 33, offset := 3, embedded := false, tag := "", pkgPath := "palings/taint", byteOffset := 56 }
def fd_78_2 : Field := { name := "writes", type := 38, offset := 7, embedded := false, tag := "", pkgPath := "palings/taint", byteOffset := 152 }
def fd_78_3 : Field := { name := "turned", type := 4, offset := 8, embedded := false, tag := "", pkgPath := "palings/taint", byteOffset := 176 }
theorem U_78 : Try.prog.underlying 78 = some (.struct #[fd_78_0, fd_78_1, fd_78_2, fd_78_3]) := by kernel_rfl
theorem T1_95 : T1 Try.prog 95 := ⟨fun w => by kernel_rfl, fun w => by kernel_rfl⟩
theorem TI_95 : TI Try.prog 95 (.pointer none) 1 8 := TI.of (by kernel_rfl) rfl (by decide) (by decide)
theorem U_95 : Try.prog.underlying 95 = some (.pointer 42) := by kernel_rfl
theorem T1_98 : T1 Try.prog 98 := ⟨fun w => by kernel_rfl, fun w => by kernel_rfl⟩
theorem TI_98 : TI Try.prog 98 (.map none) 1 8 := TI.of (by kernel_rfl) rfl (by decide) (by decide)
theorem U_98 : Try.prog.underlying 98 = some (.map 49 3) := by kernel_rfl
theorem T1_119 : T1 Try.prog 119 := ⟨fun w => by kernel_rfl, fun w => by kernel_rfl⟩
theorem TI_119 : TI Try.prog 119 (.int .u32 0) 1 4 := TI.of (by kernel_rfl) rfl (by decide) (by decide)
theorem U_119 : Try.prog.underlying 119 = some (.int .u32) := by kernel_rfl
theorem T1_123 : T1 Try.prog 123 := ⟨fun w => by kernel_rfl, fun w => by kernel_rfl⟩
theorem TI_123 : TI Try.prog 123 (.pointer none) 1 8 := TI.of (by kernel_rfl) rfl (by decide) (by decide)
theorem U_123 : Try.prog.underlying 123 = some (.pointer 5) := by kernel_rfl
theorem F_3 : IsF Try.prog 3 Try.f3 := ⟨Try.func3, rfl, by decide⟩
theorem F_4 : IsF Try.prog 4 Try.f4 := ⟨Try.func4, rfl, by decide⟩
theorem F_5 : IsF Try.prog 5 Try.f5 := ⟨Try.func5, rfl, by decide⟩
theorem F_6 : IsF Try.prog 6 Try.f6 := ⟨Try.func6, rfl, by decide⟩
theorem F_7 : IsF Try.prog 7 Try.f7 := ⟨Try.func7, rfl, by decide⟩
theorem F_8 : IsF Try.prog 8 Try.f8 := ⟨Try.func8, rfl, by decide⟩
theorem F_9 : IsF Try.prog 9 Try.f9 := ⟨Try.func9, rfl, by decide⟩
theorem F_10 : IsF Try.prog 10 Try.f10 := ⟨Try.func10, rfl, by decide⟩
theorem F_11 : IsF Try.prog 11 Try.f11 := ⟨Try.func11, rfl, by decide⟩
theorem F_12 : IsF Try.prog 12 Try.f12 := ⟨Try.func12, rfl, by decide⟩
theorem F_13 : IsF Try.prog 13 Try.f13 := ⟨Try.func13, rfl, by decide⟩
theorem F_14 : IsF Try.prog 14 Try.f14 := ⟨Try.func14, rfl, by decide⟩
theorem F_15 : IsF Try.prog 15 Try.f15 := ⟨Try.func15, rfl, by decide⟩
theorem F_16 : IsF Try.prog 16 Try.f16 := ⟨Try.func16, rfl, by decide⟩
theorem F_17 : IsF Try.prog 17 Try.f17 := ⟨Try.func17, rfl, by decide⟩
theorem F_18 : IsF Try.prog 18 Try.f18 := ⟨Try.func18, rfl, by decide⟩
theorem F_19 : IsF Try.prog 19 Try.f19 := ⟨Try.func19, rfl, by decide⟩
theorem F_20 : IsF Try.prog 20 Try.f20 := ⟨Try.func20, rfl, by decide⟩
theorem F_21 : IsF Try.prog 21 Try.f21 := ⟨Try.func21, rfl, by decide⟩
theorem F_22 : IsF Try.prog 22 Try.f22 := ⟨Try.func22, rfl, by decide⟩
theorem F_23 : IsF Try.prog 23 Try.f23 := ⟨Try.func23, rfl, by decide⟩
theorem F_24 : IsF Try.prog 24 Try.f24 := ⟨Try.func24, rfl, by decide⟩
theorem F_25 : IsF Try.prog 25 Try.f25 := ⟨Try.func25, rfl, by decide⟩
theorem F_26 : IsF Try.prog 26 Try.f26 := ⟨Try.func26, rfl, by decide⟩
theorem F_27 : IsF Try.prog 27 Try.f27 := ⟨Try.func27, rfl, by decide⟩
theorem F_28 : IsF Try.prog 28 Try.f28 := ⟨Try.func28, rfl, by decide⟩
theorem F_29 : IsF Try.prog 29 Try.f29 := ⟨Try.func29, rfl, by decide⟩
theorem F_30 : IsF Try.prog 30 Try.f30 := ⟨Try.func30, rfl, by decide⟩
theorem F_31 : IsF Try.prog 31 Try.f31 := ⟨Try.func31, rfl, by decide⟩
theorem F_32 : IsF Try.prog 32 Try.f32 := ⟨Try.func32, rfl, by decide⟩
theorem F_33 : IsF Try.prog 33 Try.f33 := ⟨Try.func33, rfl, by decide⟩
theorem F_34 : IsF Try.prog 34 Try.f34 := ⟨Try.func34, rfl, by decide⟩
theorem F_35 : IsF Try.prog 35 Try.f35 := ⟨Try.func35, rfl, by decide⟩
theorem F_36 : IsF Try.prog 36 Try.f36 := ⟨Try.func36, rfl, by decide⟩
theorem F_37 : IsF Try.prog 37 Try.f37 := ⟨Try.func37, rfl, by decide⟩
theorem F_38 : IsF Try.prog 38 Try.f38 := ⟨Try.func38, rfl, by decide⟩
theorem F_39 : IsF Try.prog 39 Try.f39 := ⟨Try.func39, rfl, by decide⟩
theorem F_40 : IsF Try.prog 40 Try.f40 := ⟨Try.func40, rfl, by decide⟩
theorem F_41 : IsF Try.prog 41 Try.f41 := ⟨Try.func41, rfl, by decide⟩
theorem F_42 : IsF Try.prog 42 Try.f42 := ⟨Try.func42, rfl, by decide⟩
theorem F_43 : IsF Try.prog 43 Try.f43 := ⟨Try.func43, rfl, by decide⟩
theorem F_44 : IsF Try.prog 44 Try.f44 := ⟨Try.func44, rfl, by decide⟩
theorem F_45 : IsF Try.prog 45 Try.f45 := ⟨Try.func45, rfl, by decide⟩
theorem F_46 : IsF Try.prog 46 Try.f46 := ⟨Try.func46, rfl, by decide⟩
theorem F_47 : IsF Try.prog 47 Try.f47 := ⟨Try.func47, rfl, by decide⟩
theorem F_48 : IsF Try.prog 48 Try.f48 := ⟨Try.func48, rfl, by decide⟩
theorem F_49 : IsF Try.prog 49 Try.f49 := ⟨Try.func49, rfl, by decide⟩
theorem F_50 : IsF Try.prog 50 Try.f50 := ⟨Try.func50, rfl, by decide⟩
theorem F_51 : IsF Try.prog 51 Try.f51 := ⟨Try.func51, rfl, by decide⟩
theorem F_52 : IsF Try.prog 52 Try.f52 := ⟨Try.func52, rfl, by decide⟩
theorem F_53 : IsF Try.prog 53 Try.f53 := ⟨Try.func53, rfl, by decide⟩
end Go.Proofs.Ytomhieglgfjloaa
