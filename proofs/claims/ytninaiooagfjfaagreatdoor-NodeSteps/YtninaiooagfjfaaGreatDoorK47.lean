/- Walks: the statement ExtendAdds. No conditions. -/
import Derived.Test.YtninaiooagfjfaaGreatDoorK46
set_option linter.unusedVariables false
set_option linter.unusedSimpArgs false
set_option maxRecDepth 20000
namespace Go.Abs
open Go Go.RowKit Go.Proofs

def a0 : Node := ⟨1, ⟨1, 1, ⟨0, 0, []⟩, ⟨⟨[]⟩⟩, [1]⟩, 1, 0, 0, 0, [], []⟩
theorem a8 : (leadF a0).1.role = 2 := by kernel_rfl
theorem a9 : (leadF a0).1.commit = 1 := by kernel_rfl
def msg0 : Msg := ⟨0, 0, 0, 0, false, 0, 0, [], 0, ⟨⟨[]⟩⟩, []⟩
theorem cb8 : callB Tryz.prog 8 = true := by kernel_rfl
theorem f8_walk  : CallsA Tryz.prog 8 [] [] (.d (boo true)) [] := by
  refine callsW_of (fn := Tryz.f8) [.tmp 0] Tryz.func8 rfl rfl (by show 0 ≤ 18; omega) ?_
  refine wpA_reg [] [] rfl (by simp only [go_sem, Nat.reduceBEq, Nat.reduceAdd, Nat.reduceEqDiff, Nat.reduceLeDiff, Nat.reduceLT, Nat.reduceMul]; with_reducible rfl) (by first | trivial | omega | (simp +contextual [inI64] <;> omega)) ?_
  refine wpA_reg [1] [usePure (f35_walk a0) rfl cb35] rfl (by simp only [go_sem, a0, List.map_nil, List.map_cons, encI, Nat.reduceBEq, Nat.reduceAdd, Nat.reduceEqDiff, Nat.reduceLeDiff, Nat.reduceLT, Nat.reduceMul]; with_reducible rfl) (by first | trivial | omega | (simp +contextual [inI64] <;> omega)) ?_
  refine wpA_reg [0] [] rfl (by simp only [go_sem, a8, a9, Nat.reduceBEq, Nat.reduceAdd, Nat.reduceEqDiff, Nat.reduceLeDiff, Nat.reduceLT, Nat.reduceMul]; with_reducible rfl) (by first | trivial | omega | (simp +contextual [inI64] <;> omega)) ?_
  refine wpA_ret ?_
  refine endD (.inr rfl) (by simp only [go_sem, Nat.reduceBEq, Nat.reduceAdd, Nat.reduceEqDiff, Nat.reduceLeDiff, Nat.reduceLT, Nat.reduceMul]; with_reducible rfl) ?_
  simp only [go_sem, Nat.reduceBEq, Nat.reduceAdd, Nat.reduceEqDiff, Nat.reduceLeDiff, Nat.reduceLT, Nat.reduceMul]
  have e8 := a8
  have e9 := a9
  simp only [a0] at e8 e9
  rw [e8, e9]
  rfl

theorem cb3 : callB Tryz.prog 3 = true := by kernel_rfl
theorem f3_walk (n : Node) (kind : Int) (text : ByteArray) : CallsA Tryz.prog 3 [.agg (nodeV n), .d (i64 kind), .d (str text)] [] (.d (boo true)) [] := by
  refine callsW_of (fn := Tryz.f3) [.tmp 6] Tryz.func3 rfl rfl (by show 3 ≤ 80; omega) ?_
  refine wpA_reg [1, 2, 3] [] rfl (by simp only [go_sem, Nat.reduceBEq, Nat.reduceAdd, Nat.reduceEqDiff, Nat.reduceLeDiff, Nat.reduceLT, Nat.reduceMul]; with_reducible rfl) (by first | trivial | omega | (simp +contextual [inI64] <;> omega)) ?_
  refine wpA_seq ?_
  refine wpA_reg [1, 2, 3, 18] [usePure (f5_walk n msg0) rfl cb5] rfl (by simp only [go_sem, msg0, List.map_nil, Nat.reduceBEq, Nat.reduceAdd, Nat.reduceEqDiff, Nat.reduceLeDiff, Nat.reduceLT, Nat.reduceMul]; with_reducible rfl) (by first | trivial | omega | (simp +contextual [inI64] <;> omega)) ?_
  refine wpA_cond rfl (fun hd => ?_) (fun hd => ?_)
  · have h0 := hd
    refine wpA_reg [6] [] rfl (by simp only [go_sem, Nat.reduceBEq, Nat.reduceAdd, Nat.reduceEqDiff, Nat.reduceLeDiff, Nat.reduceLT, Nat.reduceMul]; with_reducible rfl) (by first | trivial | omega | (simp +contextual [inI64] <;> omega)) ?_
    refine wpA_ret (tR ?_)
    refine endD (.inr rfl) (by simp only [go_sem, Nat.reduceBEq, Nat.reduceAdd, Nat.reduceEqDiff, Nat.reduceLeDiff, Nat.reduceLT, Nat.reduceMul]; with_reducible rfl) ?_
    simp only [go_sem, Nat.reduceBEq, Nat.reduceAdd, Nat.reduceEqDiff, Nat.reduceLeDiff, Nat.reduceLT, Nat.reduceMul]
  · have h0 := hd
    refine wpA_skip ?_
    refine tN ?_
    refine wpA_reg [1, 2, 3, 7, 8, 9, 10] [usePure (f6_walk n kind text) rfl cb6] rfl (by simp only [go_sem, Nat.reduceBEq, Nat.reduceAdd, Nat.reduceEqDiff, Nat.reduceLeDiff, Nat.reduceLT, Nat.reduceMul]; with_reducible rfl) (by first | trivial | omega | (simp +contextual [inI64] <;> omega)) ?_
    refine wpA_seq ?_
    refine wpA_reg [1, 2, 3, 7, 8, 9, 10, 30] [usePure (f7_walk n) rfl cb7] rfl (by simp only [go_sem, Nat.reduceBEq, Nat.reduceAdd, Nat.reduceEqDiff, Nat.reduceLeDiff, Nat.reduceLT, Nat.reduceMul]; with_reducible rfl) (by first | trivial | omega | (simp +contextual [inI64] <;> omega)) ?_
    refine wpA_cond rfl (fun hd => ?_) (fun hd => ?_)
    · have h1 := hd
      have hE : electR n = false := by rw [elect_law]; simpa using h1
      have hF := add_bad kind text hE
      refine wpA_reg [6] [usePure f8_walk rfl cb8, usePure (f9_walk (addF n kind text).1 node0) rfl cb9] rfl (by simp only [go_sem, node0, List.map_nil, Nat.reduceBEq, Nat.reduceAdd, Nat.reduceEqDiff, Nat.reduceLeDiff, Nat.reduceLT, Nat.reduceMul]; with_reducible rfl) (by first | trivial | omega | (simp +contextual [inI64] <;> omega)) ?_
      refine wpA_ret (tR ?_)
      refine endD (.inr rfl) (by simp only [go_sem, Nat.reduceBEq, Nat.reduceAdd, Nat.reduceEqDiff, Nat.reduceLeDiff, Nat.reduceLT, Nat.reduceMul]; with_reducible rfl) ?_
      simp only [go_sem, Nat.reduceBEq, Nat.reduceAdd, Nat.reduceEqDiff, Nat.reduceLeDiff, Nat.reduceLT, Nat.reduceMul]
      simp [hF, failR, node0, likeN_refl]
    · have h1 := hd
      have hE : electR n = true := by rw [elect_law]; simpa using h1
      have hF := add_law kind text hE
      refine wpA_skip ?_
      refine tN ?_
      refine wpA_reg [7, 8, 9, 10, 11, 12, 13, 14] [usePure (f10_walk n kind text hE) rfl cb10] rfl (by simp only [go_sem, Nat.reduceBEq, Nat.reduceAdd, Nat.reduceEqDiff, Nat.reduceLeDiff, Nat.reduceLT, Nat.reduceMul]; with_reducible rfl) (by first | trivial | omega | (simp +contextual [inI64] <;> omega)) ?_
      refine wpA_reg [6] [usePure f8_walk rfl cb8, usePure (f9_walk (addF n kind text).1 (addR18 n kind text).1) rfl cb9, usePure (f11_walk (addF n kind text).2.1 (addR18 n kind text).2.1) rfl cb11] rfl (by simp only [go_sem, Nat.reduceBEq, Nat.reduceAdd, Nat.reduceEqDiff, Nat.reduceLeDiff, Nat.reduceLT, Nat.reduceMul]; with_reducible rfl) (by first | trivial | omega | (simp +contextual [inI64] <;> omega)) ?_
      refine wpA_ret ?_
      refine endD (.inr rfl) (by simp only [go_sem, Nat.reduceBEq, Nat.reduceAdd, Nat.reduceEqDiff, Nat.reduceLeDiff, Nat.reduceLT, Nat.reduceMul]; with_reducible rfl) ?_
      simp only [go_sem, Nat.reduceBEq, Nat.reduceAdd, Nat.reduceEqDiff, Nat.reduceLeDiff, Nat.reduceLT, Nat.reduceMul]
      simp [hF, likeN_refl, likeM_refl]

end Go.Abs
