/- strings.Builder: the check ahead of each writing. No conditions. -/
import Derived.Test.YtninaiooagfjfaaGreatDoorK23
import Derived.Lib.Builder
import Derived.Shelf.Strings.Builder1
set_option linter.unusedVariables false
set_option linter.unusedSimpArgs false
namespace Go.Abs
open Go Go.RowKit Go.Proofs

theorem nt140 : Tryz.f140.ntmps = 20 := rfl
section
variable {P : Program}
set_option maxHeartbeats 1000000 in
set_option maxRecDepth 100000 in
theorem f140_at (mixed : P.follows .mixedOrders = true) (F : P.funcs[140]? = some Tryz.f140) (F' : P.funcs[154]? = some Tryz.f154)
    (a138 : ∀ w, (isAgg 138).run P w = .ok true w) (z138 : ∀ w, (Go.sizeOf 138).run P w = .ok 2 w) (u138 : ∀ w, (underlying 138).run P w = .ok (.struct #[{ name := "addr", type := 135, offset := 0, embedded := false, tag := "", pkgPath := "strings", byteOffset := 0 }, { name := "buf", type := 136, offset := 1, embedded := false, tag := "", pkgPath := "strings", byteOffset := 8 }]) w)
    (t135 : P.underlying 135 = some (.pointer 138)) (a135 : ∀ w, (isAgg 135).run P w = .ok false w) (z135 : ∀ w, (Go.sizeOf 135).run P w = .ok 1 w)
    (t174 : P.underlying 174 = some .unsafePointer) (a174 : ∀ w, (isAgg 174).run P w = .ok false w) (z174 : ∀ w, (Go.sizeOf 174).run P w = .ok 1 w)
    (hsize : (P.info? 138).map (·.size) = some 2) (hlies : liesAt P P.depth 138 (2 / P.cellsOf 138) 0 138 1 = true)
    (b : Nat) (w : World) (h0 : w.cell? ⟨b, 0, none⟩ = some (.pointer none)) (hsh : w.shape? b = some (138, 2)) (hfz : w.frozen? ⟨b, 0, none⟩ = false) :
    Calls P 140 #[.pointer (some ⟨b, 0, none⟩)] w fun e w' => e = .returned (.tuple #[]) ∧ w' = w.setCell ⟨b, 0, none⟩ (.pointer (some ⟨b, 0, none⟩)) := by
  have u135 := run_underlying t135; have u174 := run_underlying t174
  obtain ⟨j, hj, hjs⟩ := Option.map_eq_some_iff.1 hsize
  go_enter F, nt140
  go_wp2
  rw [Lib.run_to_unsafe w ⟨b, 0, none⟩ t135 t174 hj (by rw [hjs]; decide) hsh (Nat.zero_lt_succ 1)]
  simp only [Result.andThen]
  rw [Oper.upon_value]
  go_wp2
  rw [run_callFunc_extern F' (by kernel_rfl) (by kernel_rfl) (by kernel_rfl) (e := Extern.AbiNoEscape.same) (by kernel_rfl)]
  rw [Lib.run_noEscape]
  simp only [Result.andThen]
  rw [Oper.upon_value]
  go_wp2
  rw [Lib.run_from_unsafe w ⟨b, 0, none⟩ t174 t135 hj hsh hlies]
  simp only [Result.andThen]
  rw [Oper.upon_value]
  go_wp2
  go_end0
  exact ⟨rfl, rfl⟩

theorem nt117 : Tryz.f117.ntmps = 8 := rfl
set_option maxHeartbeats 1000000 in
set_option maxRecDepth 100000 in
theorem f117_at (mixed : P.follows .mixedOrders = true) (F : P.funcs[117]? = some Tryz.f117)
    (a138 : ∀ w, (isAgg 138).run P w = .ok true w) (z138 : ∀ w, (Go.sizeOf 138).run P w = .ok 2 w) (u138 : ∀ w, (underlying 138).run P w = .ok (.struct #[{ name := "addr", type := 135, offset := 0, embedded := false, tag := "", pkgPath := "strings", byteOffset := 0 }, { name := "buf", type := 136, offset := 1, embedded := false, tag := "", pkgPath := "strings", byteOffset := 8 }]) w)
    (t136 : P.underlying 136 = some (.slice 5)) (a136 : ∀ w, (isAgg 136).run P w = .ok false w) (z136 : ∀ w, (Go.sizeOf 136).run P w = .ok 1 w)
    (t3 : P.underlying 3 = some (.int .i64)) (a3 : ∀ w, (isAgg 3).run P w = .ok false w) (z3 : ∀ w, (Go.sizeOf 3).run P w = .ok 1 w)
    (b : Nat) (w : World) (A : Option Addr) (n c : Nat) (h1 : w.cell? ⟨b, 1, none⟩ = some (.slice A n c)) :
    Calls P 117 #[.pointer (some ⟨b, 0, none⟩)] w fun e w' => e = .returned (.int .i64 n) ∧ w' = w := by
  have u136 := run_underlying t136; have u3 := run_underlying t3
  go_enter F, nt117
  go_wp2
  go_ret
  exact ⟨rfl, rfl⟩

theorem nt118 : Tryz.f118.ntmps = 14 := rfl
set_option maxHeartbeats 2000000 in
set_option maxRecDepth 100000 in
theorem f118_at (mixed : P.follows .mixedOrders = true) (F : P.funcs[118]? = some Tryz.f118)
    (a138 : ∀ w, (isAgg 138).run P w = .ok true w) (z138 : ∀ w, (Go.sizeOf 138).run P w = .ok 2 w) (u138 : ∀ w, (underlying 138).run P w = .ok (.struct #[{ name := "addr", type := 135, offset := 0, embedded := false, tag := "", pkgPath := "strings", byteOffset := 0 }, { name := "buf", type := 136, offset := 1, embedded := false, tag := "", pkgPath := "strings", byteOffset := 8 }]) w)
    (t136 : P.underlying 136 = some (.slice 5)) (a136 : ∀ w, (isAgg 136).run P w = .ok false w) (z136 : ∀ w, (Go.sizeOf 136).run P w = .ok 1 w)
    (t167 : P.underlying 167 = some (.pointer 5)) (a167 : ∀ w, (isAgg 167).run P w = .ok false w) (z167 : ∀ w, (Go.sizeOf 167).run P w = .ok 1 w)
    (t3 : P.underlying 3 = some (.int .i64)) (a3 : ∀ w, (isAgg 3).run P w = .ok false w) (z3 : ∀ w, (Go.sizeOf 3).run P w = .ok 1 w)
    (t9 : P.underlying 9 = some .string) (a9 : ∀ w, (isAgg 9).run P w = .ok false w) (z9 : ∀ w, (Go.sizeOf 9).run P w = .ok 1 w) (cells5 : P.cellsOf 5 = 1)
    (b g cap : Nat) (cur : Array Value) (fz : Nat × Nat) (l : List UInt8) (w : World) (h1 : w.cell? ⟨b, 1, none⟩ = some (.slice (some ⟨g, 0, none⟩) l.length cap)) (h0 : l ≠ [])
    (hg : w.heap[g]? = some (.cells cur 5 fz)) (hle : l.length ≤ cap) (hcs : cur.size = cap) (hmax : l.length ≤ 140737488355328) (htake : cur.toList.take l.length = Lib.byteCells l) :
    Calls P 118 #[.pointer (some ⟨b, 0, none⟩)] w fun e w' => e = .returned (.string ⟨l.toArray⟩) ∧ w' = w.drew.freeze ⟨g, 0, none⟩ l.length := by
  have hl0 : l.length ≠ 0 := by simpa using h0
  have c1 : w.drew.cell? ⟨b, 1, none⟩ = some (.slice (some ⟨g, 0, none⟩) l.length cap) := h1
  have hSD : (Builtin.unsafeSliceData_ #[136] 167 #[.slice (some ⟨g, 0, none⟩) l.length cap]).run P w.drew = .ok (.pointer (some ⟨g, 0, none⟩)) w.drew :=
    Lib.run_unsafeSliceData_row _ _ _ _ _ _ (by omega)
  have hUS : (Builtin.unsafeString_ #[167, 3] 9 #[.pointer (some ⟨g, 0, none⟩), .int .i64 l.length]).run P w.drew = .ok (.string ⟨l.toArray⟩) (w.drew.freeze ⟨g, 0, none⟩ l.length) := by
    refine Lib.run_unsafeString_row w.drew 167 3 9 5 t167 cells5 g cur.size (by have hg' : w.drew.heap[g]? = some (.cells cur 5 fz) := hg; simp [World.shape?, hg']) l h0 (by omega) (by omega) ?_
    intro j x hx
    have hadd : (⟨g, 0, none⟩ : Addr).add j = ⟨g, j, none⟩ := by unfold Addr.add; split <;> simp_all
    have hj : (Lib.byteCells l)[j]? = some (.int .u8 x.toNat) := by simp [Lib.byteCells, hx]
    rw [hadd]
    have : w.cell? ⟨g, j, none⟩ = cur[j]? := cell_of_row w g j cur 5 fz hg
    show w.cell? ⟨g, j, none⟩ = _
    rw [this]
    rw [← htake, List.getElem?_take] at hj
    split at hj
    · simpa using hj
    · cases hj
  have u136 := run_underlying t136; have u3 := run_underlying t3; have u167 := run_underlying t167; have u9 := run_underlying t9
  go_enter F, nt118
  go_wp2
  go_region_o
  all_goals (go_wp2; go_ret; exact ⟨rfl, rfl⟩)
end
end Go.Abs
