/- The facts of this program's types and functions (written by a program). -/
import Derived.Test.YtmmjecopcjkeaaaK6
import Derived.Test.YtmmjecopcjkeaaaProg
import Derived.KernelRfl
namespace Go.Proofs.Ytmmjecopcjkeaaa
set_option linter.unusedVariables false
set_option linter.unusedSimpArgs false
open Go Go.RowKit

theorem T1_2 : T1 Try.prog 2 := ⟨fun w => by kernel_rfl, fun w => by kernel_rfl⟩
theorem TI_2 : TI Try.prog 2 (.int .i64 0) 1 8 := TI.of (by kernel_rfl) rfl (by decide) (by decide)
theorem U_2 : Try.prog.underlying 2 = some (.int .i64) := by kernel_rfl
theorem T1_3 : T1 Try.prog 3 := ⟨fun w => by kernel_rfl, fun w => by kernel_rfl⟩
theorem TI_3 : TI Try.prog 3 (.int .i64 0) 1 8 := TI.of (by kernel_rfl) rfl (by decide) (by decide)
theorem U_3 : Try.prog.underlying 3 = some (.int .i64) := by kernel_rfl
theorem T1_4 : T1 Try.prog 4 := ⟨fun w => by kernel_rfl, fun w => by kernel_rfl⟩
theorem TI_4 : TI Try.prog 4 (.bool false) 1 1 := TI.of (by kernel_rfl) rfl (by decide) (by decide)
theorem U_4 : Try.prog.underlying 4 = some .bool := by kernel_rfl
theorem T1_5 : T1 Try.prog 5 := ⟨fun w => by kernel_rfl, fun w => by kernel_rfl⟩
theorem TI_5 : TI Try.prog 5 (.int .u8 0) 1 1 := TI.of (by kernel_rfl) rfl (by decide) (by decide)
theorem U_5 : Try.prog.underlying 5 = some (.int .u8) := by kernel_rfl
theorem T1_9 : T1 Try.prog 9 := ⟨fun w => by kernel_rfl, fun w => by kernel_rfl⟩
theorem TI_9 : TI Try.prog 9 (.string ⟨#[]⟩) 1 16 := TI.of (by kernel_rfl) rfl (by decide) (by decide)
theorem U_9 : Try.prog.underlying 9 = some .string := by kernel_rfl
theorem T1_12 : T1 Try.prog 12 := ⟨fun w => by kernel_rfl, fun w => by kernel_rfl⟩
theorem TI_12 : TI Try.prog 12 (.int .u64 0) 1 8 := TI.of (by kernel_rfl) rfl (by decide) (by decide)
theorem U_12 : Try.prog.underlying 12 = some (.int .u64) := by kernel_rfl
theorem TA_13 : TA Try.prog 13 2 := ⟨fun w => by kernel_rfl, fun w => by kernel_rfl⟩
theorem TI_13 : TI Try.prog 13 (.agg #[.string ⟨#[]⟩, .int .u64 0]) 2 24 := TI.of (by kernel_rfl) rfl (by decide) (by decide)
def fd_13_0 : Field := { name := "msg", type := 9, offset := 0, embedded := false, tag := "", pkgPath := "runtime", byteOffset := 0 }
def fd_13_1 : Field := { name := "addr", type := 12, offset := 1, embedded := false, tag := "", pkgPath := "runtime", byteOffset := 16 }
theorem U_13 : Try.prog.underlying 13 = some (.struct #[fd_13_0, fd_13_1]) := by kernel_rfl
theorem T1_21 : T1 Try.prog 21 := ⟨fun w => by kernel_rfl, fun w => by kernel_rfl⟩
theorem TI_21 : TI Try.prog 21 (.int .i32 0) 1 4 := TI.of (by kernel_rfl) rfl (by decide) (by decide)
theorem U_21 : Try.prog.underlying 21 = some (.int .i32) := by kernel_rfl
theorem T1_22 : T1 Try.prog 22 := ⟨fun w => by kernel_rfl, fun w => by kernel_rfl⟩
theorem TI_22 : TI Try.prog 22 (.slice none 0 0) 1 24 := TI.of (by kernel_rfl) rfl (by decide) (by decide)
theorem U_22 : Try.prog.underlying 22 = some (.slice 2) := by kernel_rfl
theorem T1_23 : T1 Try.prog 23 := ⟨fun w => by kernel_rfl, fun w => by kernel_rfl⟩
theorem TI_23 : TI Try.prog 23 (.slice none 0 0) 1 24 := TI.of (by kernel_rfl) rfl (by decide) (by decide)
theorem U_23 : Try.prog.underlying 23 = some (.slice 37) := by kernel_rfl
theorem T1_24 : T1 Try.prog 24 := ⟨fun w => by kernel_rfl, fun w => by kernel_rfl⟩
theorem TI_24 : TI Try.prog 24 (.slice none 0 0) 1 24 := TI.of (by kernel_rfl) rfl (by decide) (by decide)
theorem U_24 : Try.prog.underlying 24 = some (.slice 3) := by kernel_rfl
theorem TA_25 : TA Try.prog 25 4 := ⟨fun w => by kernel_rfl, fun w => by kernel_rfl⟩
theorem TI_25 : TI Try.prog 25 (.agg #[.slice none 0 0, .slice none 0 0, .slice none 0 0, .slice none 0 0]) 4 96 := TI.of (by kernel_rfl) rfl (by decide) (by decide)
def fd_25_0 : Field := { name := "Weights", type := 22, offset := 0, embedded := false, tag := "", pkgPath := "", byteOffset := 0 }
def fd_25_1 : Field := { name := "Ways", type := 23, offset := 1, embedded := false, tag := "", pkgPath := "", byteOffset := 24 }
def fd_25_2 : Field := { name := "From", type := 24, offset := 2, embedded := false, tag := "", pkgPath := "", byteOffset := 48 }
def fd_25_3 : Field := { name := "To", type := 24, offset := 3, embedded := false, tag := "", pkgPath := "", byteOffset := 72 }
theorem U_25 : Try.prog.underlying 25 = some (.struct #[fd_25_0, fd_25_1, fd_25_2, fd_25_3]) := by kernel_rfl
theorem TA_26 : TA Try.prog 26 4 := ⟨fun w => by kernel_rfl, fun w => by kernel_rfl⟩
theorem TI_26 : TI Try.prog 26 (.agg #[.slice none 0 0, .slice none 0 0, .slice none 0 0, .slice none 0 0]) 4 96 := TI.of (by kernel_rfl) rfl (by decide) (by decide)
def fd_26_0 : Field := { name := "Weights", type := 22, offset := 0, embedded := false, tag := "", pkgPath := "", byteOffset := 0 }
def fd_26_1 : Field := { name := "Ways", type := 23, offset := 1, embedded := false, tag := "", pkgPath := "", byteOffset := 24 }
def fd_26_2 : Field := { name := "From", type := 24, offset := 2, embedded := false, tag := "", pkgPath := "", byteOffset := 48 }
def fd_26_3 : Field := { name := "To", type := 24, offset := 3, embedded := false, tag := "", pkgPath := "", byteOffset := 72 }
theorem U_26 : Try.prog.underlying 26 = some (.struct #[fd_26_0, fd_26_1, fd_26_2, fd_26_3]) := by kernel_rfl
theorem T1_32 : T1 Try.prog 32 := ⟨fun w => by kernel_rfl, fun w => by kernel_rfl⟩
theorem TI_32 : TI Try.prog 32 (.int .u64 0) 1 8 := TI.of (by kernel_rfl) rfl (by decide) (by decide)
theorem U_32 : Try.prog.underlying 32 = some (.int .u64) := by kernel_rfl
theorem TA_37 : TA Try.prog 37 2 := ⟨fun w => by kernel_rfl, fun w => by kernel_rfl⟩
theorem TI_37 : TI Try.prog 37 (.agg #[.int .i64 0, .int .i64 0]) 2 16 := TI.of (by kernel_rfl) rfl (by decide) (by decide)
theorem U_37 : Try.prog.underlying 37 = some (.array 2 3) := by kernel_rfl
theorem T1_39 : T1 Try.prog 39 := ⟨fun w => by kernel_rfl, fun w => by kernel_rfl⟩
theorem TI_39 : TI Try.prog 39 (.slice none 0 0) 1 24 := TI.of (by kernel_rfl) rfl (by decide) (by decide)
theorem U_39 : Try.prog.underlying 39 = some (.slice 26) := by kernel_rfl
theorem T1_42 : T1 Try.prog 42 := ⟨fun w => by kernel_rfl, fun w => by kernel_rfl⟩
theorem TI_42 : TI Try.prog 42 (.pointer none) 1 8 := TI.of (by kernel_rfl) rfl (by decide) (by decide)
theorem U_42 : Try.prog.underlying 42 = some (.pointer 57) := by kernel_rfl
theorem T1_46 : T1 Try.prog 46 := ⟨fun w => by kernel_rfl, fun w => by kernel_rfl⟩
theorem TI_46 : TI Try.prog 46 (.slice none 0 0) 1 24 := TI.of (by kernel_rfl) rfl (by decide) (by decide)
theorem U_46 : Try.prog.underlying 46 = some (.slice 4) := by kernel_rfl
theorem T1_53 : T1 Try.prog 53 := ⟨fun w => by kernel_rfl, fun w => by kernel_rfl⟩
theorem TI_53 : TI Try.prog 53 (.slice none 0 0) 1 24 := TI.of (by kernel_rfl) rfl (by decide) (by decide)
theorem U_53 : Try.prog.underlying 53 = some (.slice 24) := by kernel_rfl
theorem T1_55 : T1 Try.prog 55 := ⟨fun w => by kernel_rfl, fun w => by kernel_rfl⟩
theorem TI_55 : TI Try.prog 55 (.slice none 0 0) 1 24 := TI.of (by kernel_rfl) rfl (by decide) (by decide)
theorem U_55 : Try.prog.underlying 55 = some (.slice 60) := by kernel_rfl
theorem TA_56 : TA Try.prog 56 2 := ⟨fun w => by kernel_rfl, fun w => by kernel_rfl⟩
theorem TI_56 : TI Try.prog 56 (.agg #[.slice none 0 0, .slice none 0 0]) 2 48 := TI.of (by kernel_rfl) rfl (by decide) (by decide)
def fd_56_0 : Field := { name := "arcs", type := 55, offset := 0, embedded := false, tag := "", pkgPath := "palings/cut", byteOffset := 0 }
def fd_56_1 : Field := { name := "outs", type := 53, offset := 1, embedded := false, tag := "", pkgPath := "palings/cut", byteOffset := 24 }
theorem U_56 : Try.prog.underlying 56 = some (.struct #[fd_56_0, fd_56_1]) := by kernel_rfl
theorem TA_57 : TA Try.prog 57 2 := ⟨fun w => by kernel_rfl, fun w => by kernel_rfl⟩
theorem TI_57 : TI Try.prog 57 (.agg #[.slice none 0 0, .slice none 0 0]) 2 48 := TI.of (by kernel_rfl) rfl (by decide) (by decide)
def fd_57_0 : Field := { name := "arcs", type := 55, offset := 0, embedded := false, tag := "", pkgPath := "palings/cut", byteOffset := 0 }
def fd_57_1 : Field := { name := "outs", type := 53, offset := 1, embedded := false, tag := "", pkgPath := "palings/cut", byteOffset := 24 }
theorem U_57 : Try.prog.underlying 57 = some (.struct #[fd_57_0, fd_57_1]) := by kernel_rfl
theorem TA_59 : TA Try.prog 59 2 := ⟨fun w => by kernel_rfl, fun w => by kernel_rfl⟩
theorem TI_59 : TI Try.prog 59 (.agg #[.int .i64 0, .int .i64 0]) 2 16 := TI.of (by kernel_rfl) rfl (by decide) (by decide)
def fd_59_0 : Field := { name := "to", type := 3, offset := 0, embedded := false, tag := "", pkgPath := "palings/cut", byteOffset := 0 }
def fd_59_1 : Field := { name := "left", type := 2, offset := 1, embedded := false, tag := "", pkgPath := "palings/cut", byteOffset := 8 }
theorem U_59 : Try.prog.underlying 59 = some (.struct #[fd_59_0, fd_59_1]) := by kernel_rfl
theorem TA_60 : TA Try.prog 60 2 := ⟨fun w => by kernel_rfl, fun w => by kernel_rfl⟩
theorem TI_60 : TI Try.prog 60 (.agg #[.int .i64 0, .int .i64 0]) 2 16 := TI.of (by kernel_rfl) rfl (by decide) (by decide)
def fd_60_0 : Field := { name := "to", type := 3, offset := 0, embedded := false, tag := "", pkgPath := "palings/cut", byteOffset := 0 }
def fd_60_1 : Field := { name := "left", type := 2, offset := 1, embedded := false, tag := "", pkgPath := "palings/cut", byteOffset := 8 }
theorem U_60 : Try.prog.underlying 60 = some (.struct #[fd_60_0, fd_60_1]) := by kernel_rfl
theorem T1_72 : T1 Try.prog 72 := ⟨fun w => by kernel_rfl, fun w => by kernel_rfl⟩
theorem TI_72 : TI Try.prog 72 (.int .u32 0) 1 4 := TI.of (by kernel_rfl) rfl (by decide) (by decide)
theorem U_72 : Try.prog.underlying 72 = some (.int .u32) := by kernel_rfl
theorem T1_76 : T1 Try.prog 76 := ⟨fun w => by kernel_rfl, fun w => by kernel_rfl⟩
theorem TI_76 : TI Try.prog 76 (.pointer none) 1 8 := TI.of (by kernel_rfl) rfl (by decide) (by decide)
theorem U_76 : Try.prog.underlying 76 = some (.pointer 5) := by kernel_rfl
theorem F_3 : IsF Try.prog 3 Try.f3 := ⟨Try.func3, rfl, by decide⟩
theorem F_4 : IsF Try.prog 4 Try.f4 := ⟨Try.func4, rfl, by decide⟩
theorem F_5 : IsF Try.prog 5 Try.f5 := ⟨Try.func5, rfl, by decide⟩
theorem F_6 : IsF Try.prog 6 Try.f6 := ⟨Try.func6, rfl, by decide⟩
theorem F_7 : IsF Try.prog 7 Try.f7 := ⟨Try.func7, rfl, by decide⟩
theorem F_8 : IsF Try.prog 8 Try.f8 := ⟨Try.func8, rfl, by decide⟩
theorem F_9 : IsF Try.prog 9 Try.f9 := ⟨Try.func9, rfl, by decide⟩
theorem F_10 : IsF Try.prog 10 Try.f10 := ⟨Try.func10, rfl, by decide⟩
theorem F_11 : IsF Try.prog 11 Try.f11 := ⟨Try.func11, rfl, by decide⟩
theorem F_12 : IsF Try.prog 12 Try.f12 := ⟨Try.func12, rfl, by decide⟩
theorem F_13 : IsF Try.prog 13 Try.f13 := ⟨Try.func13, rfl, by decide⟩
theorem F_14 : IsF Try.prog 14 Try.f14 := ⟨Try.func14, rfl, by decide⟩
theorem F_15 : IsF Try.prog 15 Try.f15 := ⟨Try.func15, rfl, by decide⟩
theorem F_16 : IsF Try.prog 16 Try.f16 := ⟨Try.func16, rfl, by decide⟩
theorem F_17 : IsF Try.prog 17 Try.f17 := ⟨Try.func17, rfl, by decide⟩
theorem F_18 : IsF Try.prog 18 Try.f18 := ⟨Try.func18, rfl, by decide⟩
theorem F_19 : IsF Try.prog 19 Try.f19 := ⟨Try.func19, rfl, by decide⟩
theorem F_20 : IsF Try.prog 20 Try.f20 := ⟨Try.func20, rfl, by decide⟩
theorem F_21 : IsF Try.prog 21 Try.f21 := ⟨Try.func21, rfl, by decide⟩
theorem F_22 : IsF Try.prog 22 Try.f22 := ⟨Try.func22, rfl, by decide⟩
theorem F_23 : IsF Try.prog 23 Try.f23 := ⟨Try.func23, rfl, by decide⟩
theorem F_24 : IsF Try.prog 24 Try.f24 := ⟨Try.func24, rfl, by decide⟩
theorem F_25 : IsF Try.prog 25 Try.f25 := ⟨Try.func25, rfl, by decide⟩
theorem F_26 : IsF Try.prog 26 Try.f26 := ⟨Try.func26, rfl, by decide⟩
theorem F_27 : IsF Try.prog 27 Try.f27 := ⟨Try.func27, rfl, by decide⟩
theorem F_28 : IsF Try.prog 28 Try.f28 := ⟨Try.func28, rfl, by decide⟩
theorem F_29 : IsF Try.prog 29 Try.f29 := ⟨Try.func29, rfl, by decide⟩
theorem F_30 : IsF Try.prog 30 Try.f30 := ⟨Try.func30, rfl, by decide⟩
theorem F_31 : IsF Try.prog 31 Try.f31 := ⟨Try.func31, rfl, by decide⟩
theorem F_32 : IsF Try.prog 32 Try.f32 := ⟨Try.func32, rfl, by decide⟩
theorem F_33 : IsF Try.prog 33 Try.f33 := ⟨Try.func33, rfl, by decide⟩
theorem F_34 : IsF Try.prog 34 Try.f34 := ⟨Try.func34, rfl, by decide⟩
theorem F_35 : IsF Try.prog 35 Try.f35 := ⟨Try.func35, rfl, by decide⟩
end Go.Proofs.Ytmmjecopcjkeaaa
