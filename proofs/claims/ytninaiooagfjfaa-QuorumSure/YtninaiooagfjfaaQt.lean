/- What the program's types are: sizes, fields, elements. No conditions. -/
import Derived.Test.YtninaiooagfjfaaCt
import Derived.Test.YtninaiooagfjfaaProg
import Derived.KernelRfl
set_option linter.unusedVariables false
namespace Go.Abs
open Go Go.RowKit Go.Proofs
theorem ty_aggT_29 : aggT Try.prog 29 = some true := by kernel_rfl
theorem ty_aggT_3 : aggT Try.prog 3 = some false := by kernel_rfl
theorem ty_boolT_3 : boolT Try.prog 3 = false := by kernel_rfl
theorem ty_elemT_22 : elemT Try.prog 22 = some 3 := by kernel_rfl
theorem ty_elemT_23 : elemT Try.prog 23 = some 29 := by kernel_rfl
theorem ty_fldT_29_0 : fldT Try.prog 29 0 = some (0, 1, 3) := by kernel_rfl
theorem ty_fldT_29_2 : fldT Try.prog 29 2 = some (2, 1, 3) := by kernel_rfl
theorem ty_rowT_29 : rowT Try.prog 29 = some (3, 24) := by kernel_rfl
theorem ty_rowT_3 : rowT Try.prog 3 = some (1, 8) := by kernel_rfl
theorem ty_sizeT_29 : sizeT Try.prog 29 = some 3 := by kernel_rfl
theorem ty_sizeT_3 : sizeT Try.prog 3 = some 1 := by kernel_rfl
theorem ty_strT_22 : strT Try.prog 22 = false := by kernel_rfl
theorem ty_strT_23 : strT Try.prog 23 = false := by kernel_rfl
theorem ty_zeroT_29 : zeroT Try.prog 29 = some [Value.int IntKind.i64 0, Value.int IntKind.i64 0, Value.int IntKind.i64 0] := by kernel_rfl
attribute [go_sem] ty_aggT_29 ty_aggT_3 ty_boolT_3 ty_elemT_22 ty_elemT_23 ty_fldT_29_0 ty_fldT_29_2 ty_rowT_29 ty_rowT_3 ty_sizeT_29 ty_sizeT_3 ty_strT_22 ty_strT_23 ty_zeroT_29
end Go.Abs
