/- Walks: a log's end, and the terms in it. No conditions. -/
import Derived.Test.YtninaiooagfjfaaGreatDoorK14
set_option linter.unusedVariables false
set_option linter.unusedSimpArgs false
namespace Go.Abs
open Go Go.RowKit Go.Proofs

def SmallL (l : Lg) : Prop := -2000000000 ≤ l.base ∧ l.base ≤ 2000000000 ∧ l.recs.length ≤ 2000000000
def lastP (l : Lg) : Int := l.base + l.recs.length
def term15 (l : Lg) (x : Int) : Int := if x = l.base then l.bterm else if x < l.base ∨ lastP l < x then -1 else (rAt l.recs (x - l.base - 1).toNat).term
def viewT (l : Lg) (x : Int) : Int × Bool := if x = l.base then (l.bterm, true) else if l.base < x ∧ x ≤ lastP l then ((rAt l.recs (x - l.base - 1).toNat).term, true) else (0, false)
def termF (l : Lg) (x : Int) : Int × Bool := if logR l = true then viewT l x else (0, false)
def lastF (l : Lg) : Int × Int := if logR l = true then (lastP l, (viewT l (lastP l)).1) else (0, 0)
theorem logR_small {l : Lg} (h : logR l = true) : SmallL l := by
  simp [logR, head61, inB] at h
  exact ⟨by omega, by omega, by omega⟩
theorem cb34 : callB Tryz.prog 34 = true := by kernel_rfl
theorem f34_walk (l : Lg) (hS : SmallL l) : CallsA Tryz.prog 34 [.agg (logV l)] [] (.d (i64 (lastP l))) [] := by
  obtain ⟨hS1, hS2, hS3⟩ := hS
  refine callsW_of (fn := Tryz.f34) [.tmp 2] Tryz.func34 rfl rfl (by show 1 ≤ 9; omega) ?_
  refine wpA_reg [1] [] rfl (by simp only [go_sem, Nat.reduceBEq, Nat.reduceAdd, Nat.reduceEqDiff, Nat.reduceLeDiff, Nat.reduceLT, Nat.reduceMul]; with_reducible rfl) (by first | trivial | omega | (simp +contextual [inI64] <;> omega)) ?_
  refine wpA_reg [2] [] rfl (by simp only [go_sem, Nat.reduceBEq, Nat.reduceAdd, Nat.reduceEqDiff, Nat.reduceLeDiff, Nat.reduceLT, Nat.reduceMul]; with_reducible rfl) (by first | trivial | omega | (simp +contextual [inI64] <;> omega)) ?_
  refine wpA_ret ?_
  refine endD (.inr rfl) (by simp only [go_sem, Nat.reduceBEq, Nat.reduceAdd, Nat.reduceEqDiff, Nat.reduceLeDiff, Nat.reduceLT, Nat.reduceMul]; with_reducible rfl) ?_
  simp only [go_sem, lastP]

theorem cb83 : callB Tryz.prog 83 = true := by kernel_rfl
theorem f83_walk (l : Lg) (hS : SmallL l) : CallsA Tryz.prog 83 [.agg (logV l)] [] (.d (i64 (lastP l))) [] := by
  obtain ⟨hS1, hS2, hS3⟩ := hS
  refine callsW_of (fn := Tryz.f83) [.tmp 2] Tryz.func83 rfl rfl (by show 1 ≤ 11; omega) ?_
  refine wpA_reg [1] [] rfl (by simp only [go_sem, Nat.reduceBEq, Nat.reduceAdd, Nat.reduceEqDiff, Nat.reduceLeDiff, Nat.reduceLT, Nat.reduceMul]; with_reducible rfl) (by first | trivial | omega | (simp +contextual [inI64] <;> omega)) ?_
  refine wpA_reg [2] [] rfl (by simp only [go_sem, Nat.reduceBEq, Nat.reduceAdd, Nat.reduceEqDiff, Nat.reduceLeDiff, Nat.reduceLT, Nat.reduceMul]; with_reducible rfl) (by first | trivial | omega | (simp +contextual [inI64] <;> omega)) ?_
  refine wpA_ret ?_
  refine endD (.inr rfl) (by simp only [go_sem, Nat.reduceBEq, Nat.reduceAdd, Nat.reduceEqDiff, Nat.reduceLeDiff, Nat.reduceLT, Nat.reduceMul]; with_reducible rfl) ?_
  simp only [go_sem, lastP]

theorem cb42 : callB Tryz.prog 42 = true := by kernel_rfl
theorem f42_walk (l : Lg) (x : Int) (hS : SmallL l) : CallsA Tryz.prog 42 [.agg (logV l), .d (i64 x)] [] (.d (i64 (term15 l x))) [] := by
  obtain ⟨hS1, hS2, hS3⟩ := id hS
  refine callsW_of (fn := Tryz.f42) [.tmp 4] Tryz.func42 rfl rfl (by show 2 ≤ 31; omega) ?_
  refine wpA_reg [1, 2] [] rfl (by simp only [go_sem, Nat.reduceBEq, Nat.reduceAdd, Nat.reduceEqDiff, Nat.reduceLeDiff, Nat.reduceLT, Nat.reduceMul]; with_reducible rfl) (by first | trivial | omega | (simp +contextual [inI64] <;> omega)) ?_
  refine wpA_seq ?_
  refine wpA_reg [1, 2, 8] [] rfl (by simp only [go_sem, Nat.reduceBEq, Nat.reduceAdd, Nat.reduceEqDiff, Nat.reduceLeDiff, Nat.reduceLT, Nat.reduceMul]; with_reducible rfl) (by first | trivial | omega | (simp +contextual [inI64] <;> omega)) ?_
  refine wpA_cond rfl (fun hd => ?_) (fun hd => ?_)
  · have h0 := hd
    refine wpA_reg [4] [] rfl (by simp only [go_sem, Nat.reduceBEq, Nat.reduceAdd, Nat.reduceEqDiff, Nat.reduceLeDiff, Nat.reduceLT, Nat.reduceMul]; with_reducible rfl) (by first | trivial | omega | (simp +contextual [inI64] <;> omega)) ?_
    refine wpA_ret (tR ?_)
    refine endD (.inr rfl) (by simp only [go_sem, Nat.reduceBEq, Nat.reduceAdd, Nat.reduceEqDiff, Nat.reduceLeDiff, Nat.reduceLT, Nat.reduceMul]; with_reducible rfl) ?_
    simp only [go_sem]
    rw [term15, if_pos (by simpa using hd)]
  · have h0 := hd
    refine wpA_skip ?_
    refine tN ?_
    refine wpA_seq ?_
    refine wpA_reg [1, 2, 20] [usePure (f34_walk l hS) rfl cb34] rfl (by simp only [go_sem, Nat.reduceBEq, Nat.reduceAdd, Nat.reduceEqDiff, Nat.reduceLeDiff, Nat.reduceLT, Nat.reduceMul]; with_reducible rfl) (by first | trivial | omega | (simp +contextual [inI64] <;> omega)) ?_
    refine wpA_cond rfl (fun hd => ?_) (fun hd => ?_)
    · have h1 := hd
      refine wpA_reg [4] [] rfl (by simp only [go_sem, Nat.reduceBEq, Nat.reduceAdd, Nat.reduceEqDiff, Nat.reduceLeDiff, Nat.reduceLT, Nat.reduceMul]; with_reducible rfl) (by first | trivial | omega | (simp +contextual [inI64] <;> omega)) ?_
      refine wpA_ret (tR ?_)
      refine endD (.inr rfl) (by simp only [go_sem, Nat.reduceBEq, Nat.reduceAdd, Nat.reduceEqDiff, Nat.reduceLeDiff, Nat.reduceLT, Nat.reduceMul]; with_reducible rfl) ?_
      simp only [go_sem]
      rw [term15, if_neg (by simpa using h0), if_pos (by simpa using hd)]
    · have h1 := hd
      refine wpA_skip ?_
      refine tN ?_
      have hk : l.base < x ∧ x ≤ l.base + l.recs.length := by
        have h8 : ¬ x = l.base := by simpa using h0
        have h9 : ¬ (x < l.base ∨ lastP l < x) := by simpa using h1
        unfold lastP at h9; omega
      have hg := recs_getD l.recs (j := (x - l.base - 1).toNat) (by omega)
      have hl := recs_len l.recs
      refine wpA_reg [4] [] rfl (by simp only [go_sem, hg, encRec, Nat.reduceBEq, Nat.reduceAdd, Nat.reduceEqDiff, Nat.reduceLeDiff, Nat.reduceLT, Nat.reduceMul]; with_reducible rfl) (by simp [inI64, hl]; omega) ?_
      refine wpA_ret ?_
      refine endD (.inr rfl) (by simp only [go_sem, Nat.reduceBEq, Nat.reduceAdd, Nat.reduceEqDiff, Nat.reduceLeDiff, Nat.reduceLT, Nat.reduceMul]; with_reducible rfl) ?_
      simp only [go_sem]
      rw [term15, if_neg (by simpa using h0), if_neg (by simpa using h1)]

theorem cb62 : callB Tryz.prog 62 = true := by kernel_rfl
theorem f62_walk (l : Lg) (x : Int) (hS : SmallL l) : CallsA Tryz.prog 62 [.agg (logV l), .d (i64 x)] [] (.tup [.d (i64 (viewT l x).1), .d (boo (viewT l x).2)]) [] := by
  obtain ⟨hS1, hS2, hS3⟩ := id hS
  refine callsW_of (fn := Tryz.f62) [.tmp 4, .tmp 5] Tryz.func62 rfl rfl (by show 2 ≤ 39; omega) ?_
  refine wpA_reg [1, 2] [] rfl (by simp only [go_sem, Nat.reduceBEq, Nat.reduceAdd, Nat.reduceEqDiff, Nat.reduceLeDiff, Nat.reduceLT, Nat.reduceMul]; with_reducible rfl) (by first | trivial | omega | (simp +contextual [inI64] <;> omega)) ?_
  refine wpA_seq ?_
  refine wpA_block ?_
  refine wpA_reg [1, 2, 6] [] rfl (by simp only [go_sem, Nat.reduceBEq, Nat.reduceAdd, Nat.reduceEqDiff, Nat.reduceLeDiff, Nat.reduceLT, Nat.reduceMul]; with_reducible rfl) (by first | trivial | omega | (simp +contextual [inI64] <;> omega)) ?_
  refine wpA_cond rfl (fun hd => ?_) (fun hd => ?_)
  · have h0 := hd
    refine wpA_reg [4, 5] [] rfl (by simp only [go_sem, Nat.reduceBEq, Nat.reduceAdd, Nat.reduceEqDiff, Nat.reduceLeDiff, Nat.reduceLT, Nat.reduceMul]; with_reducible rfl) (by first | trivial | omega | (simp +contextual [inI64] <;> omega)) ?_
    refine wpA_ret (bR (tR ?_))
    refine endD (.inr rfl) (by simp only [go_sem, Nat.reduceBEq, Nat.reduceAdd, Nat.reduceEqDiff, Nat.reduceLeDiff, Nat.reduceLT, Nat.reduceMul]; with_reducible rfl) ?_
    simp only [go_sem]
    rw [viewT, if_pos (by simpa using hd)]
  · have h0 := hd
    refine wpA_reg [1, 2, 15] [usePure (f83_walk l hS) rfl cb83] rfl (by simp only [go_sem, Nat.reduceBEq, Nat.reduceAdd, Nat.reduceEqDiff, Nat.reduceLeDiff, Nat.reduceLT, Nat.reduceMul]; with_reducible rfl) (by first | trivial | omega | (simp +contextual [inI64] <;> omega)) ?_
    refine wpA_cond rfl (fun hd => ?_) (fun hd => ?_)
    · have h1 := hd
      have hk : l.base < x ∧ x ≤ l.base + l.recs.length := by
        have h9 : l.base < x ∧ x ≤ lastP l := by simpa using h1
        unfold lastP at h9; omega
      have hg := recs_getD l.recs (j := (x - l.base - 1).toNat) (by omega)
      have hl := recs_len l.recs
      refine wpA_reg [4, 5] [] rfl (by simp only [go_sem, hg, encRec, Nat.reduceBEq, Nat.reduceAdd, Nat.reduceEqDiff, Nat.reduceLeDiff, Nat.reduceLT, Nat.reduceMul]; with_reducible rfl) (by simp [inI64, hl]; omega) ?_
      refine wpA_ret (bR (tR ?_))
      refine endD (.inr rfl) (by simp only [go_sem, Nat.reduceBEq, Nat.reduceAdd, Nat.reduceEqDiff, Nat.reduceLeDiff, Nat.reduceLT, Nat.reduceMul]; with_reducible rfl) ?_
      simp only [go_sem]
      rw [viewT, if_neg (by simpa using h0), if_pos (by simpa using hd)]
    · have h1 := hd
      refine wpA_skip ?_
      refine bN (tN ?_)
      refine wpA_reg [4, 5] [] rfl (by simp only [go_sem, Nat.reduceBEq, Nat.reduceAdd, Nat.reduceEqDiff, Nat.reduceLeDiff, Nat.reduceLT, Nat.reduceMul]; with_reducible rfl) (by first | trivial | omega | (simp +contextual [inI64] <;> omega)) ?_
      refine wpA_ret ?_
      refine endD (.inr rfl) (by simp only [go_sem, Nat.reduceBEq, Nat.reduceAdd, Nat.reduceEqDiff, Nat.reduceLeDiff, Nat.reduceLT, Nat.reduceMul]; with_reducible rfl) ?_
      simp only [go_sem]
      rw [viewT, if_neg (by simpa using h0), if_neg (by simpa using h1)]

theorem cb22 : callB Tryz.prog 22 = true := by kernel_rfl
theorem f22_walk (l : Lg) (x : Int) : CallsA Tryz.prog 22 [.agg (logV l), .d (i64 x)] [] (.tup [.d (i64 (termF l x).1), .d (boo (termF l x).2)]) [] := by
  refine callsW_of (fn := Tryz.f22) [.tmp 4, .tmp 5] Tryz.func22 rfl rfl (by show 2 ≤ 15; omega) ?_
  refine wpA_reg [1, 2] [] rfl (by simp only [go_sem, Nat.reduceBEq, Nat.reduceAdd, Nat.reduceEqDiff, Nat.reduceLeDiff, Nat.reduceLT, Nat.reduceMul]; with_reducible rfl) (by first | trivial | omega | (simp +contextual [inI64] <;> omega)) ?_
  refine wpA_seq ?_
  refine wpA_reg [1, 2, 8] [usePure (f61_walk l) rfl cb61] rfl (by simp only [go_sem, Nat.reduceBEq, Nat.reduceAdd, Nat.reduceEqDiff, Nat.reduceLeDiff, Nat.reduceLT, Nat.reduceMul]; with_reducible rfl) (by first | trivial | omega | (simp +contextual [inI64] <;> omega)) ?_
  refine wpA_cond rfl (fun hd => ?_) (fun hd => ?_)
  · have h0 := hd
    refine wpA_reg [4, 5] [] rfl (by simp only [go_sem, Nat.reduceBEq, Nat.reduceAdd, Nat.reduceEqDiff, Nat.reduceLeDiff, Nat.reduceLT, Nat.reduceMul]; with_reducible rfl) (by first | trivial | omega | (simp +contextual [inI64] <;> omega)) ?_
    refine wpA_ret (tR ?_)
    refine endD (.inr rfl) (by simp only [go_sem, Nat.reduceBEq, Nat.reduceAdd, Nat.reduceEqDiff, Nat.reduceLeDiff, Nat.reduceLT, Nat.reduceMul]; with_reducible rfl) ?_
    simp only [go_sem]
    rw [termF, if_neg (by simpa using hd)]
  · have h0 := hd
    have hS := logR_small (by simpa using h0)
    refine wpA_skip ?_
    refine tN ?_
    refine wpA_reg [4, 5] [usePure (f62_walk l (x) hS) rfl cb62] rfl (by simp only [go_sem, Nat.reduceBEq, Nat.reduceAdd, Nat.reduceEqDiff, Nat.reduceLeDiff, Nat.reduceLT, Nat.reduceMul]; with_reducible rfl) (by first | trivial | omega | (simp +contextual [inI64] <;> omega)) ?_
    refine wpA_ret ?_
    refine endD (.inr rfl) (by simp only [go_sem, Nat.reduceBEq, Nat.reduceAdd, Nat.reduceEqDiff, Nat.reduceLeDiff, Nat.reduceLT, Nat.reduceMul]; with_reducible rfl) ?_
    simp only [go_sem]
    rw [termF, if_pos (by simpa using h0)]

theorem cb57 : callB Tryz.prog 57 = true := by kernel_rfl
theorem f57_walk (l : Lg) : CallsA Tryz.prog 57 [.agg (logV l)] [] (.tup [.d (i64 (lastF l).1), .d (i64 (lastF l).2)]) [] := by
  refine callsW_of (fn := Tryz.f57) [.tmp 2, .tmp 3] Tryz.func57 rfl rfl (by show 1 ≤ 22; omega) ?_
  refine wpA_reg [1] [] rfl (by simp only [go_sem, Nat.reduceBEq, Nat.reduceAdd, Nat.reduceEqDiff, Nat.reduceLeDiff, Nat.reduceLT, Nat.reduceMul]; with_reducible rfl) (by first | trivial | omega | (simp +contextual [inI64] <;> omega)) ?_
  refine wpA_seq ?_
  refine wpA_reg [1, 9] [usePure (f61_walk l) rfl cb61] rfl (by simp only [go_sem, Nat.reduceBEq, Nat.reduceAdd, Nat.reduceEqDiff, Nat.reduceLeDiff, Nat.reduceLT, Nat.reduceMul]; with_reducible rfl) (by first | trivial | omega | (simp +contextual [inI64] <;> omega)) ?_
  refine wpA_cond rfl (fun hd => ?_) (fun hd => ?_)
  · have h0 := hd
    refine wpA_reg [2, 3] [] rfl (by simp only [go_sem, Nat.reduceBEq, Nat.reduceAdd, Nat.reduceEqDiff, Nat.reduceLeDiff, Nat.reduceLT, Nat.reduceMul]; with_reducible rfl) (by first | trivial | omega | (simp +contextual [inI64] <;> omega)) ?_
    refine wpA_ret (tR ?_)
    refine endD (.inr rfl) (by simp only [go_sem, Nat.reduceBEq, Nat.reduceAdd, Nat.reduceEqDiff, Nat.reduceLeDiff, Nat.reduceLT, Nat.reduceMul]; with_reducible rfl) ?_
    simp only [go_sem]
    rw [lastF, if_neg (by simpa using hd)]
  · have h0 := hd
    have hS := logR_small (by simpa using h0)
    refine wpA_skip ?_
    refine tN ?_
    refine wpA_reg [4] [] rfl (by simp only [go_sem, Nat.reduceBEq, Nat.reduceAdd, Nat.reduceEqDiff, Nat.reduceLeDiff, Nat.reduceLT, Nat.reduceMul]; with_reducible rfl) (by first | trivial | omega | (simp +contextual [inI64] <;> omega)) ?_
    refine wpA_regD [[4], [4], [14], [13, 15], [16], [12], [12], [17], [18]] [4, 5] [usePure (f83_walk l hS) rfl cb83, usePure (f62_walk l (lastP l) hS) rfl cb62] mx rfl (by simp only [go_sem, Nat.reduceBEq, Nat.reduceAdd, Nat.reduceEqDiff, Nat.reduceLeDiff, Nat.reduceLT, Nat.reduceMul]; with_reducible rfl) (by kernel_rfl) (by first | trivial | omega | (simp +contextual [inI64] <;> omega)) ?_
    refine wpA_reg [2, 3] [usePure (f83_walk l hS) rfl cb83] rfl (by simp only [go_sem, Nat.reduceBEq, Nat.reduceAdd, Nat.reduceEqDiff, Nat.reduceLeDiff, Nat.reduceLT, Nat.reduceMul]; with_reducible rfl) (by first | trivial | omega | (simp +contextual [inI64] <;> omega)) ?_
    refine wpA_ret ?_
    refine endD (.inr rfl) (by simp only [go_sem, Nat.reduceBEq, Nat.reduceAdd, Nat.reduceEqDiff, Nat.reduceLeDiff, Nat.reduceLT, Nat.reduceMul]; with_reducible rfl) ?_
    simp only [go_sem]
    rw [lastF, if_pos (by simpa using h0)]

theorem cb27 : callB Tryz.prog 27 = true := by kernel_rfl
theorem f27_walk (n : Node) : CallsA Tryz.prog 27 [.agg (nodeV n)] [] (.d (i64 (lastF n.hard.log).1)) [] := by
  refine callsW_of (fn := Tryz.f27) [.tmp 2] Tryz.func27 rfl rfl (by show 1 ≤ 13; omega) ?_
  refine wpA_reg [1] [] rfl (by simp only [go_sem, Nat.reduceBEq, Nat.reduceAdd, Nat.reduceEqDiff, Nat.reduceLeDiff, Nat.reduceLT, Nat.reduceMul]; with_reducible rfl) (by first | trivial | omega | (simp +contextual [inI64] <;> omega)) ?_
  refine wpA_reg [3] [usePure (f57_walk n.hard.log) rfl cb57] rfl (by simp only [go_sem, Nat.reduceBEq, Nat.reduceAdd, Nat.reduceEqDiff, Nat.reduceLeDiff, Nat.reduceLT, Nat.reduceMul]; with_reducible rfl) (by first | trivial | omega | (simp +contextual [inI64] <;> omega)) ?_
  refine wpA_reg [2] [] rfl (by simp only [go_sem, Nat.reduceBEq, Nat.reduceAdd, Nat.reduceEqDiff, Nat.reduceLeDiff, Nat.reduceLT, Nat.reduceMul]; with_reducible rfl) (by first | trivial | omega | (simp +contextual [inI64] <;> omega)) ?_
  refine wpA_ret ?_
  refine endD (.inr rfl) (by simp only [go_sem, Nat.reduceBEq, Nat.reduceAdd, Nat.reduceEqDiff, Nat.reduceLeDiff, Nat.reduceLT, Nat.reduceMul]; with_reducible rfl) ?_
  simp only [go_sem]

theorem cb45 : callB Tryz.prog 45 = true := by kernel_rfl
theorem f45_walk (n : Node) (hS : SmallL n.hard.log) : CallsA Tryz.prog 45 [.agg (nodeV n)] [] (.d (i64 (lastP n.hard.log))) [] := by
  refine callsW_of (fn := Tryz.f45) [.tmp 2] Tryz.func45 rfl rfl (by show 1 ≤ 7; omega) ?_
  refine wpA_reg [1] [] rfl (by simp only [go_sem, Nat.reduceBEq, Nat.reduceAdd, Nat.reduceEqDiff, Nat.reduceLeDiff, Nat.reduceLT, Nat.reduceMul]; with_reducible rfl) (by first | trivial | omega | (simp +contextual [inI64] <;> omega)) ?_
  refine wpA_reg [2] [usePure (f34_walk n.hard.log hS) rfl cb34] rfl (by simp only [go_sem, Nat.reduceBEq, Nat.reduceAdd, Nat.reduceEqDiff, Nat.reduceLeDiff, Nat.reduceLT, Nat.reduceMul]; with_reducible rfl) (by first | trivial | omega | (simp +contextual [inI64] <;> omega)) ?_
  refine wpA_ret ?_
  refine endD (.inr rfl) (by simp only [go_sem, Nat.reduceBEq, Nat.reduceAdd, Nat.reduceEqDiff, Nat.reduceLeDiff, Nat.reduceLT, Nat.reduceMul]; with_reducible rfl) ?_
  simp only [go_sem]

end Go.Abs
