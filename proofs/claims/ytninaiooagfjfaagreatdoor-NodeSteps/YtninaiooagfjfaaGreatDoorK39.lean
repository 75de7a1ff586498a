/- Walks: which voters may follow others; the peers of voters. No conditions. -/
import Derived.Test.YtninaiooagfjfaaGreatDoorK38
set_option linter.unusedVariables false
set_option linter.unusedSimpArgs false
set_option maxRecDepth 20000
namespace Go.Abs
open Go Go.RowKit Go.Proofs

/-- How many of a are in b. -/
def sameL (a b : List Int) : Int := ((a.filter b.contains).length : Nat)
theorem sameL_le (a b : List Int) : 0 ≤ sameL a b ∧ sameL a b ≤ a.length := by
  have := List.length_filter_le b.contains a
  unfold sameL; omega
def nextF (a b : List Int) : Bool := right a && (right b && decide ((a.length : Int) - sameL a b + b.length - sameL a b = 1))
theorem f63_B (a b : List Int) (ha : a.length ≤ 1000000000) (hb : b.length ≤ 1000000000) : CallsA Tryz.prog 63 [.fn 86 [.ip [ints a], .ip [ints b]]] [] (.d (i64 (sameL a b))) [] := f63_walk a b ha hb
theorem cb63 : callB Tryz.prog 63 = true := by kernel_rfl
theorem cb64 : callB Tryz.prog 64 = true := by kernel_rfl
theorem f64_walk (a b : List Int) : CallsA Tryz.prog 64 [.d (ints a), .d (ints b)] [] (.fn 86 [.ip [ints a], .ip [ints b]]) [] := by
  refine callsW_of (fn := Tryz.f64) [.tmp 4] Tryz.func64 rfl rfl (by show 2 ≤ 6; omega) ?_
  refine wpA_reg [2, 3] [] rfl (by simp only [go_sem, Nat.reduceBEq, Nat.reduceAdd, Nat.reduceEqDiff, Nat.reduceLeDiff, Nat.reduceLT, Nat.reduceMul]; with_reducible rfl) (by first | trivial | omega | (simp +contextual [inI64] <;> omega)) ?_
  refine wpA_reg [4] [] rfl (by simp only [go_sem, Nat.reduceBEq, Nat.reduceAdd, Nat.reduceEqDiff, Nat.reduceLeDiff, Nat.reduceLT, Nat.reduceMul]; with_reducible rfl) (by first | trivial | omega | (simp +contextual [inI64] <;> omega)) ?_
  refine wpA_ret ?_
  refine endD (.inr rfl) (by simp only [go_sem, Nat.reduceBEq, Nat.reduceAdd, Nat.reduceEqDiff, Nat.reduceLeDiff, Nat.reduceLT, Nat.reduceMul]; with_reducible rfl) ?_
  simp only [go_sem, Nat.reduceBEq, Nat.reduceAdd, Nat.reduceEqDiff, Nat.reduceLeDiff, Nat.reduceLT, Nat.reduceMul]

theorem cb23 : callB Tryz.prog 23 = true := by kernel_rfl
theorem f23_walk (a b : List Int) (ha : a.length ≤ 1000000) (hb : b.length ≤ 1000000) : CallsA Tryz.prog 23 [.d (ints a), .d (ints b)] [] (.d (boo (nextF a b))) [] := by
  refine callsW_of (fn := Tryz.f23) [.tmp 4] Tryz.func23 rfl rfl (by show 2 ≤ 28; omega) ?_
  refine wpA_reg [0, 1] [] rfl (by simp only [go_sem, Nat.reduceBEq, Nat.reduceAdd, Nat.reduceEqDiff, Nat.reduceLeDiff, Nat.reduceLT, Nat.reduceMul]; with_reducible rfl) (by first | trivial | omega | (simp +contextual [inI64] <;> omega)) ?_
  refine wpA_reg [0, 1, 5] [usePure (f64_walk a b) rfl cb64, usePure (f63_B a b (by omega) (by omega)) rfl cb63] rfl (by simp only [go_sem, Nat.reduceBEq, Nat.reduceAdd, Nat.reduceEqDiff, Nat.reduceLeDiff, Nat.reduceLT, Nat.reduceMul]; with_reducible rfl) (by first | trivial | omega | (simp +contextual [inI64] <;> omega)) ?_
  have hk1 := sameL_le a b
  refine wpA_reg [4] [usePure (f56_walk a) rfl cb56, usePure (f56_walk b) rfl cb56] rfl (by simp only [go_sem, Nat.reduceBEq, Nat.reduceAdd, Nat.reduceEqDiff, Nat.reduceLeDiff, Nat.reduceLT, Nat.reduceMul]; with_reducible rfl) (by first | trivial | omega | (simp +contextual [inI64] <;> omega)) ?_
  refine wpA_ret ?_
  refine endD (.inr rfl) (by simp only [go_sem, Nat.reduceBEq, Nat.reduceAdd, Nat.reduceEqDiff, Nat.reduceLeDiff, Nat.reduceLT, Nat.reduceMul]; with_reducible rfl) ?_
  simp only [go_sem, Nat.reduceBEq, Nat.reduceAdd, Nat.reduceEqDiff, Nat.reduceLeDiff, Nat.reduceLT, Nat.reduceMul]
  simp [nextF, Bool.and_assoc]

theorem cb68 : callB Tryz.prog 68 = true := by kernel_rfl
theorem f68_walk (M : List (Int × List Int)) : CallsA Tryz.prog 68 [.own 0] [.inv (MapI Tryz.prog 3 M)] (.fn 89 [.ptr 1 0]) [.inv (MapI Tryz.prog 3 M), .var 99 [.own 0]] := by
  refine callsW_of (fn := Tryz.f68) [.tmp 2] Tryz.func68 rfl rfl (by show 1 ≤ 4; omega) ?_
  refine wpA_reg [1] [] rfl (by simp only [go_sem, Nat.reduceBEq, Nat.reduceAdd, Nat.reduceEqDiff, Nat.reduceLeDiff, Nat.reduceLT, Nat.reduceMul]; with_reducible rfl) (by first | trivial | omega | (simp +contextual [inI64] <;> omega)) ?_
  refine wpA_reg [2] [] rfl (by simp only [go_sem, Nat.reduceBEq, Nat.reduceAdd, Nat.reduceEqDiff, Nat.reduceLeDiff, Nat.reduceLT, Nat.reduceMul]; with_reducible rfl) (by first | trivial | omega | (simp +contextual [inI64] <;> omega)) ?_
  refine wpA_ret ?_
  refine endB [0, 1] (.inr rfl) (by simp only [go_sem, Nat.reduceBEq, Nat.reduceAdd, Nat.reduceEqDiff, Nat.reduceLeDiff, Nat.reduceLT, Nat.reduceMul]; with_reducible rfl) (by simp [firsts]) (by simp) (by simp only [go_sem, Nat.reduceBEq, Nat.reduceAdd, Nat.reduceEqDiff, Nat.reduceLeDiff, Nat.reduceLT, Nat.reduceMul]) ?_
  simp only [go_sem, Nat.reduceBEq, Nat.reduceAdd, Nat.reduceEqDiff, Nat.reduceLeDiff, Nat.reduceLT, Nat.reduceMul]

end Go.Abs
