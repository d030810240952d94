/- The facts of this program's types and functions (written by a program). -/
import Derived.Test.YtgcmcgbkdeealaaK6
import Derived.Test.YtgcmcgbkdeealaaProg
import Derived.KernelRfl
namespace Go.Proofs.Ytgcmcgbkdeealaa
set_option linter.unusedVariables false
set_option linter.unusedSimpArgs false
open Go Go.RowKit

theorem T1_2 : T1 Try.prog 2 := ⟨fun w => by kernel_rfl, fun w => by kernel_rfl⟩
theorem TI_2 : TI Try.prog 2 (.int .i64 0) 1 8 := TI.of (by kernel_rfl) rfl (by decide) (by decide)
theorem U_2 : Try.prog.underlying 2 = some (.int .i64) := by kernel_rfl
theorem T1_3 : T1 Try.prog 3 := ⟨fun w => by kernel_rfl, fun w => by kernel_rfl⟩
theorem TI_3 : TI Try.prog 3 (.int .i64 0) 1 8 := TI.of (by kernel_rfl) rfl (by decide) (by decide)
theorem U_3 : Try.prog.underlying 3 = some (.int .i64) := by kernel_rfl
theorem T1_4 : T1 Try.prog 4 := ⟨fun w => by kernel_rfl, fun w => by kernel_rfl⟩
theorem TI_4 : TI Try.prog 4 (.bool false) 1 1 := TI.of (by kernel_rfl) rfl (by decide) (by decide)
theorem U_4 : Try.prog.underlying 4 = some .bool := by kernel_rfl
theorem T1_5 : T1 Try.prog 5 := ⟨fun w => by kernel_rfl, fun w => by kernel_rfl⟩
theorem TI_5 : TI Try.prog 5 (.int .u8 0) 1 1 := TI.of (by kernel_rfl) rfl (by decide) (by decide)
theorem U_5 : Try.prog.underlying 5 = some (.int .u8) := by kernel_rfl
theorem T1_9 : T1 Try.prog 9 := ⟨fun w => by kernel_rfl, fun w => by kernel_rfl⟩
theorem TI_9 : TI Try.prog 9 (.string ⟨#[]⟩) 1 16 := TI.of (by kernel_rfl) rfl (by decide) (by decide)
theorem U_9 : Try.prog.underlying 9 = some .string := by kernel_rfl
theorem T1_12 : T1 Try.prog 12 := ⟨fun w => by kernel_rfl, fun w => by kernel_rfl⟩
theorem TI_12 : TI Try.prog 12 (.int .u64 0) 1 8 := TI.of (by kernel_rfl) rfl (by decide) (by decide)
theorem U_12 : Try.prog.underlying 12 = some (.int .u64) := by kernel_rfl
theorem TA_13 : TA Try.prog 13 2 := ⟨fun w => by kernel_rfl, fun w => by kernel_rfl⟩
theorem TI_13 : TI Try.prog 13 (.agg #[.string ⟨#[]⟩, .int .u64 0]) 2 24 := TI.of (by kernel_rfl) rfl (by decide) (by decide)
def fd_13_0 : Field := { name := "msg", type := 9, offset := 0, embedded := false, tag := "", pkgPath := "runtime", byteOffset := 0 }
def fd_13_1 : Field := { name := "addr", type := 12, offset := 1, embedded := false, tag := "", pkgPath := "runtime", byteOffset := 16 }
theorem U_13 : Try.prog.underlying 13 = some (.struct #[fd_13_0, fd_13_1]) := by kernel_rfl
theorem T1_21 : T1 Try.prog 21 := ⟨fun w => by kernel_rfl, fun w => by kernel_rfl⟩
theorem TI_21 : TI Try.prog 21 (.int .i32 0) 1 4 := TI.of (by kernel_rfl) rfl (by decide) (by decide)
theorem U_21 : Try.prog.underlying 21 = some (.int .i32) := by kernel_rfl
theorem T1_22 : T1 Try.prog 22 := ⟨fun w => by kernel_rfl, fun w => by kernel_rfl⟩
theorem TI_22 : TI Try.prog 22 (.slice none 0 0) 1 24 := TI.of (by kernel_rfl) rfl (by decide) (by decide)
theorem U_22 : Try.prog.underlying 22 = some (.slice 35) := by kernel_rfl
theorem T1_25 : T1 Try.prog 25 := ⟨fun w => by kernel_rfl, fun w => by kernel_rfl⟩
theorem TI_25 : TI Try.prog 25 (.slice none 0 0) 1 24 := TI.of (by kernel_rfl) rfl (by decide) (by decide)
theorem U_25 : Try.prog.underlying 25 = some (.slice 33) := by kernel_rfl
theorem T1_26 : T1 Try.prog 26 := ⟨fun w => by kernel_rfl, fun w => by kernel_rfl⟩
theorem TI_26 : TI Try.prog 26 (.pointer none) 1 8 := TI.of (by kernel_rfl) rfl (by decide) (by decide)
theorem U_26 : Try.prog.underlying 26 = some (.pointer 42) := by kernel_rfl
theorem T1_28 : T1 Try.prog 28 := ⟨fun w => by kernel_rfl, fun w => by kernel_rfl⟩
theorem TI_28 : TI Try.prog 28 (.slice none 0 0) 1 24 := TI.of (by kernel_rfl) rfl (by decide) (by decide)
theorem U_28 : Try.prog.underlying 28 = some (.slice 50) := by kernel_rfl
theorem TA_29 : TA Try.prog 29 2 := ⟨fun w => by kernel_rfl, fun w => by kernel_rfl⟩
theorem TI_29 : TI Try.prog 29 (.agg #[.string ⟨#[]⟩, .slice none 0 0]) 2 40 := TI.of (by kernel_rfl) rfl (by decide) (by decide)
def fd_29_0 : Field := { name := "Name", type := 9, offset := 0, embedded := false, tag := "", pkgPath := "", byteOffset := 0 }
def fd_29_1 : Field := { name := "Blocks", type := 28, offset := 1, embedded := false, tag := "", pkgPath := "", byteOffset := 16 }
theorem U_29 : Try.prog.underlying 29 = some (.struct #[fd_29_0, fd_29_1]) := by kernel_rfl
theorem TA_30 : TA Try.prog 30 2 := ⟨fun w => by kernel_rfl, fun w => by kernel_rfl⟩
theorem TI_30 : TI Try.prog 30 (.agg #[.string ⟨#[]⟩, .slice none 0 0]) 2 40 := TI.of (by kernel_rfl) rfl (by decide) (by decide)
def fd_30_0 : Field := { name := "Name", type := 9, offset := 0, embedded := false, tag := "", pkgPath := "", byteOffset := 0 }
def fd_30_1 : Field := { name := "Blocks", type := 28, offset := 1, embedded := false, tag := "", pkgPath := "", byteOffset := 16 }
theorem U_30 : Try.prog.underlying 30 = some (.struct #[fd_30_0, fd_30_1]) := by kernel_rfl
theorem T1_33 : T1 Try.prog 33 := ⟨fun w => by kernel_rfl, fun w => by kernel_rfl⟩
theorem TI_33 : TI Try.prog 33 (.slice none 0 0) 1 24 := TI.of (by kernel_rfl) rfl (by decide) (by decide)
theorem U_33 : Try.prog.underlying 33 = some (.slice 4) := by kernel_rfl
theorem T1_35 : T1 Try.prog 35 := ⟨fun w => by kernel_rfl, fun w => by kernel_rfl⟩
theorem TI_35 : TI Try.prog 35 (.slice none 0 0) 1 24 := TI.of (by kernel_rfl) rfl (by decide) (by decide)
theorem U_35 : Try.prog.underlying 35 = some (.slice 3) := by kernel_rfl
theorem TA_41 : TA Try.prog 41 3 := ⟨fun w => by kernel_rfl, fun w => by kernel_rfl⟩
theorem TI_41 : TI Try.prog 41 (.agg #[.slice none 0 0, .slice none 0 0, .slice none 0 0]) 3 72 := TI.of (by kernel_rfl) rfl (by decide) (by decide)
def fd_41_0 : Field := { name := "outs", type := 22, offset := 0, embedded := false, tag := "", pkgPath := "palings/flow", byteOffset := 0 }
def fd_41_1 : Field := { name := "ins", type := 22, offset := 1, embedded := false, tag := "", pkgPath := "palings/flow", byteOffset := 24 }
def fd_41_2 : Field := { name := "reach", type := 33, offset := 2, embedded := false, tag := "", pkgPath := "palings/flow", byteOffset := 48 }
theorem U_41 : Try.prog.underlying 41 = some (.struct #[fd_41_0, fd_41_1, fd_41_2]) := by kernel_rfl
theorem TA_42 : TA Try.prog 42 3 := ⟨fun w => by kernel_rfl, fun w => by kernel_rfl⟩
theorem TI_42 : TI Try.prog 42 (.agg #[.slice none 0 0, .slice none 0 0, .slice none 0 0]) 3 72 := TI.of (by kernel_rfl) rfl (by decide) (by decide)
def fd_42_0 : Field := { name := "outs", type := 22, offset := 0, embedded := false, tag := "", pkgPath := "palings/flow", byteOffset := 0 }
def fd_42_1 : Field := { name := "ins", type := 22, offset := 1, embedded := false, tag := "", pkgPath := "palings/flow", byteOffset := 24 }
def fd_42_2 : Field := { name := "reach", type := 33, offset := 2, embedded := false, tag := "", pkgPath := "palings/flow", byteOffset := 48 }
theorem U_42 : Try.prog.underlying 42 = some (.struct #[fd_42_0, fd_42_1, fd_42_2]) := by kernel_rfl
theorem T1_43 : T1 Try.prog 43 := ⟨fun w => by kernel_rfl, fun w => by kernel_rfl⟩
theorem TI_43 : TI Try.prog 43 (.slice none 0 0) 1 24 := TI.of (by kernel_rfl) rfl (by decide) (by decide)
theorem U_43 : Try.prog.underlying 43 = some (.slice 74) := by kernel_rfl
theorem T1_44 : T1 Try.prog 44 := ⟨fun w => by kernel_rfl, fun w => by kernel_rfl⟩
theorem TI_44 : TI Try.prog 44 (.int .i64 0) 1 8 := TI.of (by kernel_rfl) rfl (by decide) (by decide)
theorem U_44 : Try.prog.underlying 44 = some (.int .i64) := by kernel_rfl
theorem T1_45 : T1 Try.prog 45 := ⟨fun w => by kernel_rfl, fun w => by kernel_rfl⟩
theorem TI_45 : TI Try.prog 45 (.slice none 0 0) 1 24 := TI.of (by kernel_rfl) rfl (by decide) (by decide)
theorem U_45 : Try.prog.underlying 45 = some (.slice 52) := by kernel_rfl
theorem T1_46 : T1 Try.prog 46 := ⟨fun w => by kernel_rfl, fun w => by kernel_rfl⟩
theorem TI_46 : TI Try.prog 46 (.int .i64 0) 1 8 := TI.of (by kernel_rfl) rfl (by decide) (by decide)
theorem U_46 : Try.prog.underlying 46 = some (.int .i64) := by kernel_rfl
theorem TA_47 : TA Try.prog 47 4 := ⟨fun w => by kernel_rfl, fun w => by kernel_rfl⟩
theorem TI_47 : TI Try.prog 47 (.agg #[.int .i64 0, .int .i64 0, .slice none 0 0, .int .i64 0]) 4 48 := TI.of (by kernel_rfl) rfl (by decide) (by decide)
def fd_47_0 : Field := { name := "Kind", type := 44, offset := 0, embedded := false, tag := "", pkgPath := "", byteOffset := 0 }
def fd_47_1 : Field := { name := "Val", type := 3, offset := 1, embedded := false, tag := "", pkgPath := "", byteOffset := 8 }
def fd_47_2 : Field := { name := "Ways", type := 45, offset := 2, embedded := false, tag := "", pkgPath := "", byteOffset := 16 }
def fd_47_3 : Field := { name := "Trap", type := 46, offset := 3, embedded := false, tag := "", pkgPath := "", byteOffset := 40 }
theorem U_47 : Try.prog.underlying 47 = some (.struct #[fd_47_0, fd_47_1, fd_47_2, fd_47_3]) := by kernel_rfl
theorem TA_48 : TA Try.prog 48 4 := ⟨fun w => by kernel_rfl, fun w => by kernel_rfl⟩
theorem TI_48 : TI Try.prog 48 (.agg #[.int .i64 0, .int .i64 0, .slice none 0 0, .int .i64 0]) 4 48 := TI.of (by kernel_rfl) rfl (by decide) (by decide)
def fd_48_0 : Field := { name := "Kind", type := 44, offset := 0, embedded := false, tag := "", pkgPath := "", byteOffset := 0 }
def fd_48_1 : Field := { name := "Val", type := 3, offset := 1, embedded := false, tag := "", pkgPath := "", byteOffset := 8 }
def fd_48_2 : Field := { name := "Ways", type := 45, offset := 2, embedded := false, tag := "", pkgPath := "", byteOffset := 16 }
def fd_48_3 : Field := { name := "Trap", type := 46, offset := 3, embedded := false, tag := "", pkgPath := "", byteOffset := 40 }
theorem U_48 : Try.prog.underlying 48 = some (.struct #[fd_48_0, fd_48_1, fd_48_2, fd_48_3]) := by kernel_rfl
theorem TA_49 : TA Try.prog 49 6 := ⟨fun w => by kernel_rfl, fun w => by kernel_rfl⟩
theorem TI_49 : TI Try.prog 49 (.agg #[.slice none 0 0, .slice none 0 0, .int .i64 0, .int .i64 0, .slice none 0 0, .int .i64 0]) 6 96 := TI.of (by kernel_rfl) rfl (by decide) (by decide)
def fd_49_0 : Field := { name := "Params", type := 35, offset := 0, embedded := false, tag := "", pkgPath := "", byteOffset := 0 }
def fd_49_1 : Field := { name := "Ins", type := 43, offset := 1, embedded := false, tag := "", pkgPath := "", byteOffset := 24 }
def fd_49_2 : Field := { name := "End", type := 48, offset := 2, embedded := false, tag := "", pkgPath := "", byteOffset := 48 }
theorem U_49 : Try.prog.underlying 49 = some (.struct #[fd_49_0, fd_49_1, fd_49_2]) := by kernel_rfl
theorem TA_50 : TA Try.prog 50 6 := ⟨fun w => by kernel_rfl, fun w => by kernel_rfl⟩
theorem TI_50 : TI Try.prog 50 (.agg #[.slice none 0 0, .slice none 0 0, .int .i64 0, .int .i64 0, .slice none 0 0, .int .i64 0]) 6 96 := TI.of (by kernel_rfl) rfl (by decide) (by decide)
def fd_50_0 : Field := { name := "Params", type := 35, offset := 0, embedded := false, tag := "", pkgPath := "", byteOffset := 0 }
def fd_50_1 : Field := { name := "Ins", type := 43, offset := 1, embedded := false, tag := "", pkgPath := "", byteOffset := 24 }
def fd_50_2 : Field := { name := "End", type := 48, offset := 2, embedded := false, tag := "", pkgPath := "", byteOffset := 48 }
theorem U_50 : Try.prog.underlying 50 = some (.struct #[fd_50_0, fd_50_1, fd_50_2]) := by kernel_rfl
theorem TA_51 : TA Try.prog 51 2 := ⟨fun w => by kernel_rfl, fun w => by kernel_rfl⟩
theorem TI_51 : TI Try.prog 51 (.agg #[.int .i64 0, .slice none 0 0]) 2 32 := TI.of (by kernel_rfl) rfl (by decide) (by decide)
def fd_51_0 : Field := { name := "To", type := 3, offset := 0, embedded := false, tag := "", pkgPath := "", byteOffset := 0 }
def fd_51_1 : Field := { name := "Args", type := 35, offset := 1, embedded := false, tag := "", pkgPath := "", byteOffset := 8 }
theorem U_51 : Try.prog.underlying 51 = some (.struct #[fd_51_0, fd_51_1]) := by kernel_rfl
theorem TA_52 : TA Try.prog 52 2 := ⟨fun w => by kernel_rfl, fun w => by kernel_rfl⟩
theorem TI_52 : TI Try.prog 52 (.agg #[.int .i64 0, .slice none 0 0]) 2 32 := TI.of (by kernel_rfl) rfl (by decide) (by decide)
def fd_52_0 : Field := { name := "To", type := 3, offset := 0, embedded := false, tag := "", pkgPath := "", byteOffset := 0 }
def fd_52_1 : Field := { name := "Args", type := 35, offset := 1, embedded := false, tag := "", pkgPath := "", byteOffset := 8 }
theorem U_52 : Try.prog.underlying 52 = some (.struct #[fd_52_0, fd_52_1]) := by kernel_rfl
theorem T1_62 : T1 Try.prog 62 := ⟨fun w => by kernel_rfl, fun w => by kernel_rfl⟩
theorem TI_62 : TI Try.prog 62 (.int .u32 0) 1 4 := TI.of (by kernel_rfl) rfl (by decide) (by decide)
theorem U_62 : Try.prog.underlying 62 = some (.int .u32) := by kernel_rfl
theorem T1_66 : T1 Try.prog 66 := ⟨fun w => by kernel_rfl, fun w => by kernel_rfl⟩
theorem TI_66 : TI Try.prog 66 (.pointer none) 1 8 := TI.of (by kernel_rfl) rfl (by decide) (by decide)
theorem U_66 : Try.prog.underlying 66 = some (.pointer 5) := by kernel_rfl
theorem T1_71 : T1 Try.prog 71 := ⟨fun w => by kernel_rfl, fun w => by kernel_rfl⟩
theorem TI_71 : TI Try.prog 71 (.int .i64 0) 1 8 := TI.of (by kernel_rfl) rfl (by decide) (by decide)
theorem U_71 : Try.prog.underlying 71 = some (.int .i64) := by kernel_rfl
theorem T1_72 : T1 Try.prog 72 := ⟨fun w => by kernel_rfl, fun w => by kernel_rfl⟩
theorem TI_72 : TI Try.prog 72 (.int .i64 0) 1 8 := TI.of (by kernel_rfl) rfl (by decide) (by decide)
theorem U_72 : Try.prog.underlying 72 = some (.int .i64) := by kernel_rfl
theorem TA_73 : TA Try.prog 73 7 := ⟨fun w => by kernel_rfl, fun w => by kernel_rfl⟩
theorem TI_73 : TI Try.prog 73 (.agg #[.int .i64 0, .int .i64 0, .slice none 0 0, .int .i64 0, .int .i64 0, .int .i64 0, .int .i64 0]) 7 72 := TI.of (by kernel_rfl) rfl (by decide) (by decide)
def fd_73_0 : Field := { name := "Op", type := 71, offset := 0, embedded := false, tag := "", pkgPath := "", byteOffset := 0 }
def fd_73_1 : Field := { name := "Dst", type := 3, offset := 1, embedded := false, tag := "", pkgPath := "", byteOffset := 8 }
def fd_73_2 : Field := { name := "Args", type := 35, offset := 2, embedded := false, tag := "", pkgPath := "", byteOffset := 16 }
def fd_73_3 : Field := { name := "Num", type := 2, offset := 3, embedded := false, tag := "", pkgPath := "", byteOffset := 40 }
def fd_73_4 : Field := { name := "Bin", type := 72, offset := 4, embedded := false, tag := "", pkgPath := "", byteOffset := 48 }
def fd_73_5 : Field := { name := "Arr", type := 3, offset := 5, embedded := false, tag := "", pkgPath := "", byteOffset := 56 }
def fd_73_6 : Field := { name := "Fn", type := 3, offset := 6, embedded := false, tag := "", pkgPath := "", byteOffset := 64 }
theorem U_73 : Try.prog.underlying 73 = some (.struct #[fd_73_0, fd_73_1, fd_73_2, fd_73_3, fd_73_4, fd_73_5, fd_73_6]) := by kernel_rfl
theorem TA_74 : TA Try.prog 74 7 := ⟨fun w => by kernel_rfl, fun w => by kernel_rfl⟩
theorem TI_74 : TI Try.prog 74 (.agg #[.int .i64 0, .int .i64 0, .slice none 0 0, .int .i64 0, .int .i64 0, .int .i64 0, .int .i64 0]) 7 72 := TI.of (by kernel_rfl) rfl (by decide) (by decide)
def fd_74_0 : Field := { name := "Op", type := 71, offset := 0, embedded := false, tag := "", pkgPath := "", byteOffset := 0 }
def fd_74_1 : Field := { name := "Dst", type := 3, offset := 1, embedded := false, tag := "", pkgPath := "", byteOffset := 8 }
def fd_74_2 : Field := { name := "Args", type := 35, offset := 2, embedded := false, tag := "", pkgPath := "", byteOffset := 16 }
def fd_74_3 : Field := { name := "Num", type := 2, offset := 3, embedded := false, tag := "", pkgPath := "", byteOffset := 40 }
def fd_74_4 : Field := { name := "Bin", type := 72, offset := 4, embedded := false, tag := "", pkgPath := "", byteOffset := 48 }
def fd_74_5 : Field := { name := "Arr", type := 3, offset := 5, embedded := false, tag := "", pkgPath := "", byteOffset := 56 }
def fd_74_6 : Field := { name := "Fn", type := 3, offset := 6, embedded := false, tag := "", pkgPath := "", byteOffset := 64 }
theorem U_74 : Try.prog.underlying 74 = some (.struct #[fd_74_0, fd_74_1, fd_74_2, fd_74_3, fd_74_4, fd_74_5, fd_74_6]) := by kernel_rfl
theorem F_3 : IsF Try.prog 3 Try.f3 := ⟨Try.func3, rfl, by decide⟩
theorem F_4 : IsF Try.prog 4 Try.f4 := ⟨Try.func4, rfl, by decide⟩
theorem F_5 : IsF Try.prog 5 Try.f5 := ⟨Try.func5, rfl, by decide⟩
theorem F_6 : IsF Try.prog 6 Try.f6 := ⟨Try.func6, rfl, by decide⟩
theorem F_7 : IsF Try.prog 7 Try.f7 := ⟨Try.func7, rfl, by decide⟩
theorem F_8 : IsF Try.prog 8 Try.f8 := ⟨Try.func8, rfl, by decide⟩
theorem F_9 : IsF Try.prog 9 Try.f9 := ⟨Try.func9, rfl, by decide⟩
theorem F_10 : IsF Try.prog 10 Try.f10 := ⟨Try.func10, rfl, by decide⟩
theorem F_11 : IsF Try.prog 11 Try.f11 := ⟨Try.func11, rfl, by decide⟩
theorem F_12 : IsF Try.prog 12 Try.f12 := ⟨Try.func12, rfl, by decide⟩
theorem F_13 : IsF Try.prog 13 Try.f13 := ⟨Try.func13, rfl, by decide⟩
theorem F_14 : IsF Try.prog 14 Try.f14 := ⟨Try.func14, rfl, by decide⟩
theorem F_15 : IsF Try.prog 15 Try.f15 := ⟨Try.func15, rfl, by decide⟩
theorem F_16 : IsF Try.prog 16 Try.f16 := ⟨Try.func16, rfl, by decide⟩
theorem F_17 : IsF Try.prog 17 Try.f17 := ⟨Try.func17, rfl, by decide⟩
theorem F_18 : IsF Try.prog 18 Try.f18 := ⟨Try.func18, rfl, by decide⟩
theorem F_19 : IsF Try.prog 19 Try.f19 := ⟨Try.func19, rfl, by decide⟩
theorem F_20 : IsF Try.prog 20 Try.f20 := ⟨Try.func20, rfl, by decide⟩
theorem F_21 : IsF Try.prog 21 Try.f21 := ⟨Try.func21, rfl, by decide⟩
theorem F_22 : IsF Try.prog 22 Try.f22 := ⟨Try.func22, rfl, by decide⟩
end Go.Proofs.Ytgcmcgbkdeealaa
