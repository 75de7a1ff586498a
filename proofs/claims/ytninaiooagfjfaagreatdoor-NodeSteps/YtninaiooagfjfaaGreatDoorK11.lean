/- What the program's types are: sizes, fields, elements. No conditions. -/
import Derived.Test.YtninaiooagfjfaaGreatDoorK10
import Derived.Test.YtninaiooagfjfaaGreatDoorProg
import Derived.KernelRfl
set_option linter.unusedVariables false
namespace Go.Abs
open Go Go.RowKit Go.Proofs
theorem ty_aggT_119 : aggT Tryz.prog 119 = some false := by kernel_rfl
theorem ty_aggT_121 : aggT Tryz.prog 121 = some true := by kernel_rfl
theorem ty_aggT_135 : aggT Tryz.prog 135 = some false := by kernel_rfl
theorem ty_aggT_136 : aggT Tryz.prog 136 = some false := by kernel_rfl
theorem ty_aggT_139 : aggT Tryz.prog 139 = some false := by kernel_rfl
theorem ty_aggT_166 : aggT Tryz.prog 166 = some false := by kernel_rfl
theorem ty_aggT_2 : aggT Tryz.prog 2 = some false := by kernel_rfl
theorem ty_aggT_22 : aggT Tryz.prog 22 = some false := by kernel_rfl
theorem ty_aggT_24 : aggT Tryz.prog 24 = some true := by kernel_rfl
theorem ty_aggT_25 : aggT Tryz.prog 25 = some false := by kernel_rfl
theorem ty_aggT_27 : aggT Tryz.prog 27 = some true := by kernel_rfl
theorem ty_aggT_28 : aggT Tryz.prog 28 = some false := by kernel_rfl
theorem ty_aggT_3 : aggT Tryz.prog 3 = some false := by kernel_rfl
theorem ty_aggT_30 : aggT Tryz.prog 30 = some true := by kernel_rfl
theorem ty_aggT_33 : aggT Tryz.prog 33 = some true := by kernel_rfl
theorem ty_aggT_4 : aggT Tryz.prog 4 = some false := by kernel_rfl
theorem ty_aggT_49 : aggT Tryz.prog 49 = some true := by kernel_rfl
theorem ty_aggT_70 : aggT Tryz.prog 70 = some true := by kernel_rfl
theorem ty_aggT_9 : aggT Tryz.prog 9 = some false := by kernel_rfl
theorem ty_aggT_91 : aggT Tryz.prog 91 = some true := by kernel_rfl
theorem ty_aggT_99 : aggT Tryz.prog 99 = some false := by kernel_rfl
theorem ty_boolT_135 : boolT Tryz.prog 135 = false := by kernel_rfl
theorem ty_boolT_2 : boolT Tryz.prog 2 = false := by kernel_rfl
theorem ty_boolT_25 : boolT Tryz.prog 25 = false := by kernel_rfl
theorem ty_boolT_3 : boolT Tryz.prog 3 = false := by kernel_rfl
theorem ty_boolT_35 : boolT Tryz.prog 35 = false := by kernel_rfl
theorem ty_boolT_4 : boolT Tryz.prog 4 = true := by kernel_rfl
theorem ty_boolT_49 : boolT Tryz.prog 49 = false := by kernel_rfl
theorem ty_boolT_5 : boolT Tryz.prog 5 = false := by kernel_rfl
theorem ty_boolT_70 : boolT Tryz.prog 70 = false := by kernel_rfl
theorem ty_boolT_9 : boolT Tryz.prog 9 = false := by kernel_rfl
theorem ty_byteE_119 : byteE Tryz.prog 119 = false := by kernel_rfl
theorem ty_byteE_136 : byteE Tryz.prog 136 = true := by kernel_rfl
theorem ty_byteE_22 : byteE Tryz.prog 22 = false := by kernel_rfl
theorem ty_byteE_25 : byteE Tryz.prog 25 = false := by kernel_rfl
theorem ty_byteE_28 : byteE Tryz.prog 28 = false := by kernel_rfl
theorem ty_byteE_34 : byteE Tryz.prog 34 = false := by kernel_rfl
theorem ty_byteT_121 : byteT Tryz.prog 121 = false := by kernel_rfl
theorem ty_byteT_3 : byteT Tryz.prog 3 = false := by kernel_rfl
theorem ty_byteT_33 : byteT Tryz.prog 33 = false := by kernel_rfl
theorem ty_byteT_49 : byteT Tryz.prog 49 = false := by kernel_rfl
theorem ty_byteT_5 : byteT Tryz.prog 5 = true := by kernel_rfl
theorem ty_byteT_70 : byteT Tryz.prog 70 = false := by kernel_rfl
theorem ty_byteT_9 : byteT Tryz.prog 9 = false := by kernel_rfl
theorem ty_elemT_119 : elemT Tryz.prog 119 = some 121 := by kernel_rfl
theorem ty_elemT_135 : elemT Tryz.prog 135 = none := by kernel_rfl
theorem ty_elemT_136 : elemT Tryz.prog 136 = some 5 := by kernel_rfl
theorem ty_elemT_174 : elemT Tryz.prog 174 = none := by kernel_rfl
theorem ty_elemT_22 : elemT Tryz.prog 22 = some 49 := by kernel_rfl
theorem ty_elemT_25 : elemT Tryz.prog 25 = some 3 := by kernel_rfl
theorem ty_elemT_28 : elemT Tryz.prog 28 = some 70 := by kernel_rfl
theorem ty_elemT_34 : elemT Tryz.prog 34 = some 33 := by kernel_rfl
theorem ty_elemT_5 : elemT Tryz.prog 5 = none := by kernel_rfl
theorem ty_elemT_86 : elemT Tryz.prog 86 = some 9 := by kernel_rfl
theorem ty_elemT_9 : elemT Tryz.prog 9 = none := by kernel_rfl
theorem ty_eqT_49 : eqT Tryz.prog 49 = some [(0, 0), (1, 0), (2, 1)] := by kernel_rfl
theorem ty_eqT_70 : eqT Tryz.prog 70 = some [(0, 0), (1, 0), (2, 0)] := by kernel_rfl
theorem ty_fldT_121_0 : fldT Tryz.prog 121 0 = some (0, 1, 3) := by kernel_rfl
theorem ty_fldT_121_1 : fldT Tryz.prog 121 1 = some (1, 1, 2) := by kernel_rfl
theorem ty_fldT_121_2 : fldT Tryz.prog 121 2 = some (2, 1, 9) := by kernel_rfl
theorem ty_fldT_121_3 : fldT Tryz.prog 121 3 = some (3, 1, 119) := by kernel_rfl
theorem ty_fldT_138_0 : fldT Tryz.prog 138 0 = some (0, 1, 135) := by kernel_rfl
theorem ty_fldT_138_1 : fldT Tryz.prog 138 1 = some (1, 1, 136) := by kernel_rfl
theorem ty_fldT_24_0 : fldT Tryz.prog 24 0 = some (0, 1, 3) := by kernel_rfl
theorem ty_fldT_24_1 : fldT Tryz.prog 24 1 = some (1, 1, 3) := by kernel_rfl
theorem ty_fldT_24_2 : fldT Tryz.prog 24 2 = some (2, 1, 22) := by kernel_rfl
theorem ty_fldT_27_0 : fldT Tryz.prog 27 0 = some (0, 1, 3) := by kernel_rfl
theorem ty_fldT_27_1 : fldT Tryz.prog 27 1 = some (1, 1, 3) := by kernel_rfl
theorem ty_fldT_27_2 : fldT Tryz.prog 27 2 = some (2, 3, 24) := by kernel_rfl
theorem ty_fldT_27_3 : fldT Tryz.prog 27 3 = some (5, 1, 9) := by kernel_rfl
theorem ty_fldT_27_4 : fldT Tryz.prog 27 4 = some (6, 1, 25) := by kernel_rfl
theorem ty_fldT_30_0 : fldT Tryz.prog 30 0 = some (0, 1, 3) := by kernel_rfl
theorem ty_fldT_30_1 : fldT Tryz.prog 30 1 = some (1, 7, 27) := by kernel_rfl
theorem ty_fldT_30_2 : fldT Tryz.prog 30 2 = some (8, 1, 3) := by kernel_rfl
theorem ty_fldT_30_3 : fldT Tryz.prog 30 3 = some (9, 1, 3) := by kernel_rfl
theorem ty_fldT_30_4 : fldT Tryz.prog 30 4 = some (10, 1, 3) := by kernel_rfl
theorem ty_fldT_30_5 : fldT Tryz.prog 30 5 = some (11, 1, 3) := by kernel_rfl
theorem ty_fldT_30_6 : fldT Tryz.prog 30 6 = some (12, 1, 25) := by kernel_rfl
theorem ty_fldT_30_7 : fldT Tryz.prog 30 7 = some (13, 1, 28) := by kernel_rfl
theorem ty_fldT_33_0 : fldT Tryz.prog 33 0 = some (0, 1, 3) := by kernel_rfl
theorem ty_fldT_33_1 : fldT Tryz.prog 33 1 = some (1, 1, 3) := by kernel_rfl
theorem ty_fldT_33_10 : fldT Tryz.prog 33 10 = some (10, 1, 25) := by kernel_rfl
theorem ty_fldT_33_2 : fldT Tryz.prog 33 2 = some (2, 1, 3) := by kernel_rfl
theorem ty_fldT_33_3 : fldT Tryz.prog 33 3 = some (3, 1, 3) := by kernel_rfl
theorem ty_fldT_33_4 : fldT Tryz.prog 33 4 = some (4, 1, 4) := by kernel_rfl
theorem ty_fldT_33_5 : fldT Tryz.prog 33 5 = some (5, 1, 3) := by kernel_rfl
theorem ty_fldT_33_6 : fldT Tryz.prog 33 6 = some (6, 1, 3) := by kernel_rfl
theorem ty_fldT_33_7 : fldT Tryz.prog 33 7 = some (7, 1, 22) := by kernel_rfl
theorem ty_fldT_33_8 : fldT Tryz.prog 33 8 = some (8, 1, 3) := by kernel_rfl
theorem ty_fldT_33_9 : fldT Tryz.prog 33 9 = some (9, 1, 9) := by kernel_rfl
theorem ty_fldT_49_0 : fldT Tryz.prog 49 0 = some (0, 1, 3) := by kernel_rfl
theorem ty_fldT_49_1 : fldT Tryz.prog 49 1 = some (1, 1, 3) := by kernel_rfl
theorem ty_fldT_49_2 : fldT Tryz.prog 49 2 = some (2, 1, 9) := by kernel_rfl
theorem ty_fldT_70_0 : fldT Tryz.prog 70 0 = some (0, 1, 3) := by kernel_rfl
theorem ty_fldT_70_1 : fldT Tryz.prog 70 1 = some (1, 1, 3) := by kernel_rfl
theorem ty_fldT_70_2 : fldT Tryz.prog 70 2 = some (2, 1, 3) := by kernel_rfl
theorem ty_fldT_91_0 : fldT Tryz.prog 91 0 = some (0, 3, 24) := by kernel_rfl
theorem ty_intT_135 : intT Tryz.prog 135 = none := by kernel_rfl
theorem ty_intT_136 : intT Tryz.prog 136 = none := by kernel_rfl
theorem ty_intT_174 : intT Tryz.prog 174 = none := by kernel_rfl
theorem ty_intT_3 : intT Tryz.prog 3 = some IntKind.i64 := by kernel_rfl
theorem ty_intT_9 : intT Tryz.prog 9 = none := by kernel_rfl
theorem ty_mapT_99 : mapT Tryz.prog 99 = some (3, 70) := by kernel_rfl
theorem ty_ptrT_135 : ptrT Tryz.prog 135 = true := by kernel_rfl
theorem ty_rowT_121 : rowT Tryz.prog 121 = some (4, 56) := by kernel_rfl
theorem ty_rowT_3 : rowT Tryz.prog 3 = some (1, 8) := by kernel_rfl
theorem ty_rowT_33 : rowT Tryz.prog 33 = some (11, 128) := by kernel_rfl
theorem ty_rowT_49 : rowT Tryz.prog 49 = some (3, 32) := by kernel_rfl
theorem ty_rowT_5 : rowT Tryz.prog 5 = some (1, 1) := by kernel_rfl
theorem ty_rowT_70 : rowT Tryz.prog 70 = some (3, 24) := by kernel_rfl
theorem ty_rowT_9 : rowT Tryz.prog 9 = some (1, 16) := by kernel_rfl
theorem ty_sizeT_119 : sizeT Tryz.prog 119 = some 1 := by kernel_rfl
theorem ty_sizeT_121 : sizeT Tryz.prog 121 = some 4 := by kernel_rfl
theorem ty_sizeT_135 : sizeT Tryz.prog 135 = some 1 := by kernel_rfl
theorem ty_sizeT_136 : sizeT Tryz.prog 136 = some 1 := by kernel_rfl
theorem ty_sizeT_139 : sizeT Tryz.prog 139 = some 1 := by kernel_rfl
theorem ty_sizeT_166 : sizeT Tryz.prog 166 = some 1 := by kernel_rfl
theorem ty_sizeT_2 : sizeT Tryz.prog 2 = some 1 := by kernel_rfl
theorem ty_sizeT_22 : sizeT Tryz.prog 22 = some 1 := by kernel_rfl
theorem ty_sizeT_24 : sizeT Tryz.prog 24 = some 3 := by kernel_rfl
theorem ty_sizeT_25 : sizeT Tryz.prog 25 = some 1 := by kernel_rfl
theorem ty_sizeT_27 : sizeT Tryz.prog 27 = some 7 := by kernel_rfl
theorem ty_sizeT_28 : sizeT Tryz.prog 28 = some 1 := by kernel_rfl
theorem ty_sizeT_3 : sizeT Tryz.prog 3 = some 1 := by kernel_rfl
theorem ty_sizeT_30 : sizeT Tryz.prog 30 = some 14 := by kernel_rfl
theorem ty_sizeT_33 : sizeT Tryz.prog 33 = some 11 := by kernel_rfl
theorem ty_sizeT_4 : sizeT Tryz.prog 4 = some 1 := by kernel_rfl
theorem ty_sizeT_49 : sizeT Tryz.prog 49 = some 3 := by kernel_rfl
theorem ty_sizeT_5 : sizeT Tryz.prog 5 = some 1 := by kernel_rfl
theorem ty_sizeT_70 : sizeT Tryz.prog 70 = some 3 := by kernel_rfl
theorem ty_sizeT_9 : sizeT Tryz.prog 9 = some 1 := by kernel_rfl
theorem ty_sizeT_91 : sizeT Tryz.prog 91 = some 3 := by kernel_rfl
theorem ty_sizeT_99 : sizeT Tryz.prog 99 = some 1 := by kernel_rfl
theorem ty_stT_121 : stT Tryz.prog 121 = some [(0, 1), (1, 1), (2, 1), (3, 1)] := by kernel_rfl
theorem ty_stT_27 : stT Tryz.prog 27 = some [(0, 1), (1, 1), (2, 3), (5, 1), (6, 1)] := by kernel_rfl
theorem ty_stT_30 : stT Tryz.prog 30 = some [(0, 1), (1, 7), (8, 1), (9, 1), (10, 1), (11, 1), (12, 1), (13, 1)] := by kernel_rfl
theorem ty_stT_33 : stT Tryz.prog 33 = some [(0, 1), (1, 1), (2, 1), (3, 1), (4, 1), (5, 1), (6, 1), (7, 1), (8, 1), (9, 1), (10, 1)] := by kernel_rfl
theorem ty_stT_49 : stT Tryz.prog 49 = some [(0, 1), (1, 1), (2, 1)] := by kernel_rfl
theorem ty_stT_70 : stT Tryz.prog 70 = some [(0, 1), (1, 1), (2, 1)] := by kernel_rfl
theorem ty_stT_91 : stT Tryz.prog 91 = some [(0, 3)] := by kernel_rfl
theorem ty_strT_119 : strT Tryz.prog 119 = false := by kernel_rfl
theorem ty_strT_135 : strT Tryz.prog 135 = false := by kernel_rfl
theorem ty_strT_136 : strT Tryz.prog 136 = false := by kernel_rfl
theorem ty_strT_174 : strT Tryz.prog 174 = false := by kernel_rfl
theorem ty_strT_22 : strT Tryz.prog 22 = false := by kernel_rfl
theorem ty_strT_25 : strT Tryz.prog 25 = false := by kernel_rfl
theorem ty_strT_28 : strT Tryz.prog 28 = false := by kernel_rfl
theorem ty_strT_3 : strT Tryz.prog 3 = false := by kernel_rfl
theorem ty_strT_34 : strT Tryz.prog 34 = false := by kernel_rfl
theorem ty_strT_86 : strT Tryz.prog 86 = false := by kernel_rfl
theorem ty_strT_9 : strT Tryz.prog 9 = true := by kernel_rfl
theorem ty_underlying_135 : Tryz.prog.underlying 135 = some (TypeDesc.pointer 138) := by kernel_rfl
theorem ty_underlying_136 : Tryz.prog.underlying 136 = some (TypeDesc.slice 5) := by kernel_rfl
theorem ty_underlying_174 : Tryz.prog.underlying 174 = some TypeDesc.unsafePointer := by kernel_rfl
theorem ty_underlying_2 : Tryz.prog.underlying 2 = some (TypeDesc.int IntKind.i64) := by kernel_rfl
theorem ty_underlying_25 : Tryz.prog.underlying 25 = some (TypeDesc.slice 3) := by kernel_rfl
theorem ty_underlying_3 : Tryz.prog.underlying 3 = some (TypeDesc.int IntKind.i64) := by kernel_rfl
theorem ty_underlying_35 : Tryz.prog.underlying 35 = some (TypeDesc.int IntKind.i64) := by kernel_rfl
theorem ty_underlying_4 : Tryz.prog.underlying 4 = some TypeDesc.bool := by kernel_rfl
theorem ty_underlying_49 : Tryz.prog.underlying 49 = some (TypeDesc.struct { toList := [{ name := "Term", type := 3, offset := 0, embedded := false, tag := "", pkgPath := "", byteOffset := 0 }, { name := "Kind", type := 3, offset := 1, embedded := false, tag := "", pkgPath := "", byteOffset := 8 }, { name := "Data", type := 9, offset := 2, embedded := false, tag := "", pkgPath := "", byteOffset := 16 }] }) := by kernel_rfl
theorem ty_underlying_5 : Tryz.prog.underlying 5 = some (TypeDesc.int IntKind.u8) := by kernel_rfl
theorem ty_underlying_70 : Tryz.prog.underlying 70 = some (TypeDesc.struct { toList := [{ name := "ID", type := 3, offset := 0, embedded := false, tag := "", pkgPath := "", byteOffset := 0 }, { name := "Next", type := 3, offset := 1, embedded := false, tag := "", pkgPath := "", byteOffset := 8 }, { name := "Match", type := 3, offset := 2, embedded := false, tag := "", pkgPath := "", byteOffset := 16 }] }) := by kernel_rfl
theorem ty_underlying_9 : Tryz.prog.underlying 9 = some TypeDesc.string := by kernel_rfl
theorem ty_zeroI_70 : zeroI Tryz.prog 70 = some [0, 0, 0] := by kernel_rfl
theorem ty_zeroT_121 : zeroT Tryz.prog 121 = some [Value.int IntKind.i64 0, Value.int IntKind.i64 0, Value.string { data := { toList := [] } }, Value.slice none 0 0] := by kernel_rfl
theorem ty_zeroT_138 : zeroT Tryz.prog 138 = some [Value.pointer none, Value.slice none 0 0] := by kernel_rfl
theorem ty_zeroT_139 : zeroT Tryz.prog 139 = some [Value.nilFunc] := by kernel_rfl
theorem ty_zeroT_166 : zeroT Tryz.prog 166 = some [Value.nilFunc] := by kernel_rfl
theorem ty_zeroT_24 : zeroT Tryz.prog 24 = some [Value.int IntKind.i64 0, Value.int IntKind.i64 0, Value.slice none 0 0] := by kernel_rfl
theorem ty_zeroT_27 : zeroT Tryz.prog 27 = some [Value.int IntKind.i64 0, Value.int IntKind.i64 0, Value.int IntKind.i64 0, Value.int IntKind.i64 0, Value.slice none 0 0, Value.string { data := { toList := [] } }, Value.slice none 0 0] := by kernel_rfl
theorem ty_zeroT_3 : zeroT Tryz.prog 3 = some [Value.int IntKind.i64 0] := by kernel_rfl
theorem ty_zeroT_30 : zeroT Tryz.prog 30 = some [Value.int IntKind.i64 0, Value.int IntKind.i64 0, Value.int IntKind.i64 0, Value.int IntKind.i64 0, Value.int IntKind.i64 0, Value.slice none 0 0, Value.string { data := { toList := [] } }, Value.slice none 0 0, Value.int IntKind.i64 0, Value.int IntKind.i64 0, Value.int IntKind.i64 0, Value.int IntKind.i64 0, Value.slice none 0 0, Value.slice none 0 0] := by kernel_rfl
theorem ty_zeroT_33 : zeroT Tryz.prog 33 = some [Value.int IntKind.i64 0, Value.int IntKind.i64 0, Value.int IntKind.i64 0, Value.int IntKind.i64 0, Value.bool false, Value.int IntKind.i64 0, Value.int IntKind.i64 0, Value.slice none 0 0, Value.int IntKind.i64 0, Value.string { data := { toList := [] } }, Value.slice none 0 0] := by kernel_rfl
theorem ty_zeroT_4 : zeroT Tryz.prog 4 = some [Value.bool false] := by kernel_rfl
theorem ty_zeroT_49 : zeroT Tryz.prog 49 = some [Value.int IntKind.i64 0, Value.int IntKind.i64 0, Value.string { data := { toList := [] } }] := by kernel_rfl
theorem ty_zeroT_70 : zeroT Tryz.prog 70 = some [Value.int IntKind.i64 0, Value.int IntKind.i64 0, Value.int IntKind.i64 0] := by kernel_rfl
theorem ty_zeroT_91 : zeroT Tryz.prog 91 = some [Value.int IntKind.i64 0, Value.int IntKind.i64 0, Value.slice none 0 0] := by kernel_rfl
attribute [go_sem] ty_aggT_119 ty_aggT_121 ty_aggT_135 ty_aggT_136 ty_aggT_139 ty_aggT_166 ty_aggT_2 ty_aggT_22 ty_aggT_24 ty_aggT_25 ty_aggT_27 ty_aggT_28 ty_aggT_3 ty_aggT_30 ty_aggT_33 ty_aggT_4 ty_aggT_49 ty_aggT_70 ty_aggT_9 ty_aggT_91 ty_aggT_99 ty_boolT_135 ty_boolT_2 ty_boolT_25 ty_boolT_3 ty_boolT_35 ty_boolT_4 ty_boolT_49 ty_boolT_5 ty_boolT_70 ty_boolT_9 ty_byteE_119 ty_byteE_136 ty_byteE_22 ty_byteE_25 ty_byteE_28 ty_byteE_34 ty_byteT_121 ty_byteT_3 ty_byteT_33 ty_byteT_49 ty_byteT_5 ty_byteT_70 ty_byteT_9 ty_elemT_119 ty_elemT_135 ty_elemT_136 ty_elemT_174 ty_elemT_22 ty_elemT_25 ty_elemT_28 ty_elemT_34 ty_elemT_5 ty_elemT_86 ty_elemT_9 ty_eqT_49 ty_eqT_70 ty_fldT_121_0 ty_fldT_121_1 ty_fldT_121_2 ty_fldT_121_3 ty_fldT_138_0 ty_fldT_138_1 ty_fldT_24_0 ty_fldT_24_1 ty_fldT_24_2 ty_fldT_27_0 ty_fldT_27_1 ty_fldT_27_2 ty_fldT_27_3 ty_fldT_27_4 ty_fldT_30_0 ty_fldT_30_1 ty_fldT_30_2 ty_fldT_30_3 ty_fldT_30_4 ty_fldT_30_5 ty_fldT_30_6 ty_fldT_30_7 ty_fldT_33_0 ty_fldT_33_1 ty_fldT_33_10 ty_fldT_33_2 ty_fldT_33_3 ty_fldT_33_4 ty_fldT_33_5 ty_fldT_33_6 ty_fldT_33_7 ty_fldT_33_8 ty_fldT_33_9 ty_fldT_49_0 ty_fldT_49_1 ty_fldT_49_2 ty_fldT_70_0 ty_fldT_70_1 ty_fldT_70_2 ty_fldT_91_0 ty_intT_135 ty_intT_136 ty_intT_174 ty_intT_3 ty_intT_9 ty_mapT_99 ty_ptrT_135 ty_rowT_121 ty_rowT_3 ty_rowT_33 ty_rowT_49 ty_rowT_5 ty_rowT_70 ty_rowT_9 ty_sizeT_119 ty_sizeT_121 ty_sizeT_135 ty_sizeT_136 ty_sizeT_139 ty_sizeT_166 ty_sizeT_2 ty_sizeT_22 ty_sizeT_24 ty_sizeT_25 ty_sizeT_27 ty_sizeT_28 ty_sizeT_3 ty_sizeT_30 ty_sizeT_33 ty_sizeT_4 ty_sizeT_49 ty_sizeT_5 ty_sizeT_70 ty_sizeT_9 ty_sizeT_91 ty_sizeT_99 ty_stT_121 ty_stT_27 ty_stT_30 ty_stT_33 ty_stT_49 ty_stT_70 ty_stT_91 ty_strT_119 ty_strT_135 ty_strT_136 ty_strT_174 ty_strT_22 ty_strT_25 ty_strT_28 ty_strT_3 ty_strT_34 ty_strT_86 ty_strT_9 ty_underlying_135 ty_underlying_136 ty_underlying_174 ty_underlying_2 ty_underlying_25 ty_underlying_3 ty_underlying_35 ty_underlying_4 ty_underlying_49 ty_underlying_5 ty_underlying_70 ty_underlying_9 ty_zeroI_70 ty_zeroT_121 ty_zeroT_138 ty_zeroT_139 ty_zeroT_166 ty_zeroT_24 ty_zeroT_27 ty_zeroT_3 ty_zeroT_30 ty_zeroT_33 ty_zeroT_4 ty_zeroT_49 ty_zeroT_70 ty_zeroT_91
end Go.Abs
