/- The facts of this program's types and functions (written by a program). -/
import Derived.Test.YtlpbghnphplclaaK6
import Derived.Test.YtlpbghnphplclaaProg
import Derived.KernelRfl
namespace Go.Proofs.Ytlpbghnphplclaa
open Go Go.RowKit

theorem T1_2 : T1 Try.prog 2 := ⟨fun w => by kernel_rfl, fun w => by kernel_rfl⟩
theorem TI_2 : TI Try.prog 2 (.int .i64 0) 1 8 := TI.of (by kernel_rfl) rfl (by decide) (by decide)
theorem U_2 : Try.prog.underlying 2 = some (.int .i64) := by kernel_rfl
theorem T1_3 : T1 Try.prog 3 := ⟨fun w => by kernel_rfl, fun w => by kernel_rfl⟩
theorem TI_3 : TI Try.prog 3 (.int .i64 0) 1 8 := TI.of (by kernel_rfl) rfl (by decide) (by decide)
theorem U_3 : Try.prog.underlying 3 = some (.int .i64) := by kernel_rfl
theorem T1_4 : T1 Try.prog 4 := ⟨fun w => by kernel_rfl, fun w => by kernel_rfl⟩
theorem TI_4 : TI Try.prog 4 (.bool false) 1 1 := TI.of (by kernel_rfl) rfl (by decide) (by decide)
theorem U_4 : Try.prog.underlying 4 = some .bool := by kernel_rfl
theorem T1_5 : T1 Try.prog 5 := ⟨fun w => by kernel_rfl, fun w => by kernel_rfl⟩
theorem TI_5 : TI Try.prog 5 (.int .u8 0) 1 1 := TI.of (by kernel_rfl) rfl (by decide) (by decide)
theorem U_5 : Try.prog.underlying 5 = some (.int .u8) := by kernel_rfl
theorem T1_9 : T1 Try.prog 9 := ⟨fun w => by kernel_rfl, fun w => by kernel_rfl⟩
theorem TI_9 : TI Try.prog 9 (.string ⟨#[]⟩) 1 16 := TI.of (by kernel_rfl) rfl (by decide) (by decide)
theorem U_9 : Try.prog.underlying 9 = some .string := by kernel_rfl
theorem T1_12 : T1 Try.prog 12 := ⟨fun w => by kernel_rfl, fun w => by kernel_rfl⟩
theorem TI_12 : TI Try.prog 12 (.int .u64 0) 1 8 := TI.of (by kernel_rfl) rfl (by decide) (by decide)
theorem U_12 : Try.prog.underlying 12 = some (.int .u64) := by kernel_rfl
theorem TA_13 : TA Try.prog 13 2 := ⟨fun w => by kernel_rfl, fun w => by kernel_rfl⟩
theorem TI_13 : TI Try.prog 13 (.agg #[.string ⟨#[]⟩, .int .u64 0]) 2 24 := TI.of (by kernel_rfl) rfl (by decide) (by decide)
def fd_13_0 : Field := { name := "msg", type := 9, offset := 0, embedded := false, tag := "", pkgPath := "runtime", byteOffset := 0 }
def fd_13_1 : Field := { name := "addr", type := 12, offset := 1, embedded := false, tag := "", pkgPath := "runtime", byteOffset := 16 }
theorem U_13 : Try.prog.underlying 13 = some (.struct #[fd_13_0, fd_13_1]) := by kernel_rfl
theorem T1_21 : T1 Try.prog 21 := ⟨fun w => by kernel_rfl, fun w => by kernel_rfl⟩
theorem TI_21 : TI Try.prog 21 (.int .i32 0) 1 4 := TI.of (by kernel_rfl) rfl (by decide) (by decide)
theorem U_21 : Try.prog.underlying 21 = some (.int .i32) := by kernel_rfl
theorem T1_22 : T1 Try.prog 22 := ⟨fun w => by kernel_rfl, fun w => by kernel_rfl⟩
theorem TI_22 : TI Try.prog 22 (.slice none 0 0) 1 24 := TI.of (by kernel_rfl) rfl (by decide) (by decide)
theorem U_22 : Try.prog.underlying 22 = some (.slice 29) := by kernel_rfl
theorem T1_23 : T1 Try.prog 23 := ⟨fun w => by kernel_rfl, fun w => by kernel_rfl⟩
theorem TI_23 : TI Try.prog 23 (.map none) 1 8 := TI.of (by kernel_rfl) rfl (by decide) (by decide)
theorem U_23 : Try.prog.underlying 23 = some (.map 3 2) := by kernel_rfl
theorem T1_27 : T1 Try.prog 27 := ⟨fun w => by kernel_rfl, fun w => by kernel_rfl⟩
theorem TI_27 : TI Try.prog 27 (.map none) 1 8 := TI.of (by kernel_rfl) rfl (by decide) (by decide)
theorem U_27 : Try.prog.underlying 27 = some (.map 3 4) := by kernel_rfl
theorem TA_28 : TA Try.prog 28 2 := ⟨fun w => by kernel_rfl, fun w => by kernel_rfl⟩
theorem TI_28 : TI Try.prog 28 (.agg #[.int .i64 0, .int .i64 0]) 2 16 := TI.of (by kernel_rfl) rfl (by decide) (by decide)
def fd_28_0 : Field := { name := "To", type := 3, offset := 0, embedded := false, tag := "", pkgPath := "", byteOffset := 0 }
def fd_28_1 : Field := { name := "From", type := 3, offset := 1, embedded := false, tag := "", pkgPath := "", byteOffset := 8 }
theorem U_28 : Try.prog.underlying 28 = some (.struct #[fd_28_0, fd_28_1]) := by kernel_rfl
theorem TA_29 : TA Try.prog 29 2 := ⟨fun w => by kernel_rfl, fun w => by kernel_rfl⟩
theorem TI_29 : TI Try.prog 29 (.agg #[.int .i64 0, .int .i64 0]) 2 16 := TI.of (by kernel_rfl) rfl (by decide) (by decide)
def fd_29_0 : Field := { name := "To", type := 3, offset := 0, embedded := false, tag := "", pkgPath := "", byteOffset := 0 }
def fd_29_1 : Field := { name := "From", type := 3, offset := 1, embedded := false, tag := "", pkgPath := "", byteOffset := 8 }
theorem U_29 : Try.prog.underlying 29 = some (.struct #[fd_29_0, fd_29_1]) := by kernel_rfl
theorem T1_31 : T1 Try.prog 31 := ⟨fun w => by kernel_rfl, fun w => by kernel_rfl⟩
theorem TI_31 : TI Try.prog 31 (.map none) 1 8 := TI.of (by kernel_rfl) rfl (by decide) (by decide)
theorem U_31 : Try.prog.underlying 31 = some (.map 3 3) := by kernel_rfl
theorem T1_32 : T1 Try.prog 32 := ⟨fun w => by kernel_rfl, fun w => by kernel_rfl⟩
theorem TI_32 : TI Try.prog 32 (.slice none 0 0) 1 24 := TI.of (by kernel_rfl) rfl (by decide) (by decide)
theorem U_32 : Try.prog.underlying 32 = some (.slice 3) := by kernel_rfl
theorem T1_49 : T1 Try.prog 49 := ⟨fun w => by kernel_rfl, fun w => by kernel_rfl⟩
theorem TI_49 : TI Try.prog 49 (.int .u32 0) 1 4 := TI.of (by kernel_rfl) rfl (by decide) (by decide)
theorem U_49 : Try.prog.underlying 49 = some (.int .u32) := by kernel_rfl
theorem T1_53 : T1 Try.prog 53 := ⟨fun w => by kernel_rfl, fun w => by kernel_rfl⟩
theorem TI_53 : TI Try.prog 53 (.pointer none) 1 8 := TI.of (by kernel_rfl) rfl (by decide) (by decide)
theorem U_53 : Try.prog.underlying 53 = some (.pointer 5) := by kernel_rfl
theorem F_3 : IsF Try.prog 3 Try.f3 := ⟨Try.func3, rfl, by decide⟩
theorem F_4 : IsF Try.prog 4 Try.f4 := ⟨Try.func4, rfl, by decide⟩
theorem F_5 : IsF Try.prog 5 Try.f5 := ⟨Try.func5, rfl, by decide⟩
theorem F_6 : IsF Try.prog 6 Try.f6 := ⟨Try.func6, rfl, by decide⟩
theorem F_7 : IsF Try.prog 7 Try.f7 := ⟨Try.func7, rfl, by decide⟩
theorem F_8 : IsF Try.prog 8 Try.f8 := ⟨Try.func8, rfl, by decide⟩
theorem F_9 : IsF Try.prog 9 Try.f9 := ⟨Try.func9, rfl, by decide⟩
theorem F_10 : IsF Try.prog 10 Try.f10 := ⟨Try.func10, rfl, by decide⟩
theorem F_11 : IsF Try.prog 11 Try.f11 := ⟨Try.func11, rfl, by decide⟩
theorem F_12 : IsF Try.prog 12 Try.f12 := ⟨Try.func12, rfl, by decide⟩
theorem F_13 : IsF Try.prog 13 Try.f13 := ⟨Try.func13, rfl, by decide⟩
theorem F_14 : IsF Try.prog 14 Try.f14 := ⟨Try.func14, rfl, by decide⟩
theorem F_15 : IsF Try.prog 15 Try.f15 := ⟨Try.func15, rfl, by decide⟩
theorem F_16 : IsF Try.prog 16 Try.f16 := ⟨Try.func16, rfl, by decide⟩
theorem F_17 : IsF Try.prog 17 Try.f17 := ⟨Try.func17, rfl, by decide⟩
theorem F_18 : IsF Try.prog 18 Try.f18 := ⟨Try.func18, rfl, by decide⟩
end Go.Proofs.Ytlpbghnphplclaa
