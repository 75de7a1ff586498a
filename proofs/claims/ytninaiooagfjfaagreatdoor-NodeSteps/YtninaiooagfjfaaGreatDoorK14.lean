/- Walks: which logs are right. No conditions. -/
import Derived.Test.YtninaiooagfjfaaGreatDoorK13
set_option linter.unusedVariables false
set_option linter.unusedSimpArgs false
namespace Go.Abs
open Go Go.RowKit Go.Proofs

def head92 (l : Lg) (t : Int) : Bool := !(inB l.base 0 1073741824) || !(inB l.bterm 0 t) || (decide (l.base = 0) != decide (l.bterm = 0)) || decide (200 < (l.recs.length : Int)) || decide (1073741824 - (l.recs.length : Int) < l.base)
def ok92 (l : Lg) (t : Int) (j : Nat) : Bool := !(decide ((rAt l.recs j).term < 1) || decide ((rAt l.recs j).term < lastT l.bterm l.recs j) || decide (t < (rAt l.recs j).term) || !(inB (rAt l.recs j).kind 0 2) || decide (8192 < ((rAt l.recs j).data.size : Int)))
def log14 (l : Lg) (t : Int) : Bool := !(head92 l t) && allTo (ok92 l t) l.recs.length
def head61 (l : Lg) : Bool := !(inB l.base 0 1073741824) || !(inB l.bterm 0 1073741824) || (decide (l.base = 0) != decide (l.bterm = 0)) || decide (200 < (l.recs.length : Int)) || decide (1073741824 - (l.recs.length : Int) < l.base)
def ok61 (l : Lg) (j : Nat) : Bool := !(!(inB (rAt l.recs j).term (lastT (max l.bterm 1) l.recs j) 1073741824) || !(inB (rAt l.recs j).kind 0 2) || decide (8192 < ((rAt l.recs j).data.size : Int)))
def logR (l : Lg) : Bool := !(head61 l) && allTo (ok61 l) l.recs.length
theorem cb92 : callB Tryz.prog 92 = true := by kernel_rfl
theorem f92_walk (l : Lg) (t : Int) : CallsA Tryz.prog 92 [.agg (logV l), .d (i64 t)] [] (.d (boo (log14 l t))) [] := by
  refine callsA_lenA (k := 0) (i := 2) rfl rfl fun hlen => ?_
  rw [List.length_map] at hlen
  refine callsW_of (fn := Tryz.f92) [.tmp 4] Tryz.func92 rfl rfl (by show 2 ≤ 82; omega) ?_
  refine wpA_reg [1, 2] [] rfl (by simp only [go_sem, Nat.reduceBEq, Nat.reduceAdd, Nat.reduceEqDiff, Nat.reduceLeDiff, Nat.reduceLT, Nat.reduceMul]; with_reducible rfl) (by first | trivial | omega | (simp +contextual [inI64] <;> omega)) ?_
  refine wpA_seq ?_
  refine wpA_reg [1, 2, 42] [usePure (f91_walk (l.base) (0) (1073741824)) rfl cb91, usePure (f91_walk (l.bterm) (0) (t)) rfl cb91] rfl (by simp only [go_sem, Nat.reduceBEq, Nat.reduceAdd, Nat.reduceEqDiff, Nat.reduceLeDiff, Nat.reduceLT, Nat.reduceMul]; with_reducible rfl) (by first | trivial | omega | (simp +contextual [inI64] <;> omega)) ?_
  refine wpA_cond rfl (fun hd => ?_) (fun hd => ?_)
  · have h0 := hd
    refine wpA_reg [4] [] rfl (by simp only [go_sem, Nat.reduceBEq, Nat.reduceAdd, Nat.reduceEqDiff, Nat.reduceLeDiff, Nat.reduceLT, Nat.reduceMul]; with_reducible rfl) (by first | trivial | omega | (simp +contextual [inI64] <;> omega)) ?_
    refine wpA_ret (tR ?_)
    refine endD (.inr rfl) (by simp only [go_sem, Nat.reduceBEq, Nat.reduceAdd, Nat.reduceEqDiff, Nat.reduceLeDiff, Nat.reduceLT, Nat.reduceMul]; with_reducible rfl) ?_
    simp only [go_sem]
    rw [log14, head92, hd]; rfl
  · have h0 := hd
    refine wpA_skip ?_
    refine tN ?_
    refine wpA_reg [1, 2, 5] [] rfl (by simp only [go_sem, Nat.reduceBEq, Nat.reduceAdd, Nat.reduceEqDiff, Nat.reduceLeDiff, Nat.reduceLT, Nat.reduceMul]; with_reducible rfl) (by first | trivial | omega | (simp +contextual [inI64] <;> omega)) ?_
    refine wpA_seq ?_
    refine wpA_reg [1, 5, 46, 47, 48] [] rfl (by simp only [go_sem, Nat.reduceBEq, Nat.reduceAdd, Nat.reduceEqDiff, Nat.reduceLeDiff, Nat.reduceLT, Nat.reduceMul]; with_reducible rfl) (by first | trivial | omega | (simp +contextual [inI64] <;> omega)) ?_
    refine wpA_block ?_
    refine wpA_loop (fun j : Nat => ⟨[(1, .d (i64 t)), (5, .d (i64 (lastT l.bterm l.recs j))), (46, .d (recs l.recs)), (47, .d (i64 l.recs.length)), (48, .d (i64 j))], [], 0⟩) (fun j => j ≤ l.recs.length ∧ allTo (ok92 l t) j = true) (fun j => l.recs.length - j) 0 (weak_of (bs := []) [] trivial (by simp) trivial (by simp only [go_sem, Int.natCast_zero, lastT_zero, Nat.reduceBEq])) ⟨Nat.zero_le _, rfl⟩ (fun j hj => ?_)
    obtain ⟨hj, hjv⟩ := hj
    refine wpA_reg [1, 5, 46, 47, 48, 49] [] rfl (by simp only [go_sem, Nat.reduceBEq, Nat.reduceAdd, Nat.reduceEqDiff, Nat.reduceLeDiff, Nat.reduceLT, Nat.reduceMul]; with_reducible rfl) (by first | trivial | omega | (simp +contextual [inI64] <;> omega)) ?_
    refine wpA_seq ?_
    refine wpA_cond rfl (fun hc => ?_) (fun hc => ?_)
    · have hc : j < l.recs.length := by simpa using hc
      have hg := recs_getD l.recs hc
      have e : ((j : Int) - 1).toNat = j - 1 := by omega
      have hg2 := recs_getD l.recs (j := j - 1) (by omega)
      have hl := recs_len l.recs
      refine wpA_skip ?_
      refine tN ?_
      refine wpA_seq ?_
      refine wpA_block ?_
      refine wpA_reg [1, 5, 7, 46, 47, 48] [] rfl (by simp only [go_sem, hg, hg2, e, encRec, Nat.reduceBEq, Nat.reduceAdd, Nat.reduceEqDiff, Nat.reduceLeDiff, Nat.reduceLT, Nat.reduceMul]; with_reducible rfl) (by first | trivial | omega | (simp +contextual [inI64, hl, hc] <;> omega)) ?_
      refine wpA_seq ?_
      refine wpA_reg [1, 7, 46, 47, 48, 78] [usePure (f91_walk ((rAt l.recs j).kind) (0) (2)) rfl cb91] rfl (by simp only [go_sem, hg, hg2, e, encRec, Nat.reduceBEq, Nat.reduceAdd, Nat.reduceEqDiff, Nat.reduceLeDiff, Nat.reduceLT, Nat.reduceMul]; with_reducible rfl) (by first | trivial | omega | (simp +contextual [inI64, hl, hc] <;> omega)) ?_
      refine wpA_cond rfl (fun hd => ?_) (fun hd => ?_)
      · have h1 := hd
        refine wpA_reg [4] [] rfl (by simp only [go_sem, hg, hg2, e, encRec, Nat.reduceBEq, Nat.reduceAdd, Nat.reduceEqDiff, Nat.reduceLeDiff, Nat.reduceLT, Nat.reduceMul]; with_reducible rfl) (by first | trivial | omega | (simp +contextual [inI64, hl, hc] <;> omega)) ?_
        refine wpA_ret (tR (bR (tR (tR (bR (tR ?_))))))
        refine endD (.inr rfl) (by simp only [go_sem, Nat.reduceBEq, Nat.reduceAdd, Nat.reduceEqDiff, Nat.reduceLeDiff, Nat.reduceLT, Nat.reduceMul]; with_reducible rfl) ?_
        simp only [go_sem]
        rw [log14, all_no hc (by rw [ok92, hd]; rfl), Bool.and_false]
      · have h1 := hd
        refine wpA_skip ?_
        refine tN ?_
        refine wpA_region [1, 5, 46, 47, 48] [] rfl (by simp only [go_sem, hg, hg2, e, encRec, Nat.reduceBEq, Nat.reduceAdd, Nat.reduceEqDiff, Nat.reduceLeDiff, Nat.reduceLT, Nat.reduceMul]; with_reducible rfl) (by first | trivial | omega | (simp +contextual [inI64, hl, hc] <;> omega)) ?_
        refine bN (tN ?_)
        refine wpA_region [1, 5, 46, 47, 48] [] rfl (by simp only [go_sem, hg, hg2, e, encRec, Nat.reduceBEq, Nat.reduceAdd, Nat.reduceEqDiff, Nat.reduceLeDiff, Nat.reduceLT, Nat.reduceMul]; with_reducible rfl) (by first | trivial | omega | (simp +contextual [inI64, hl, hc] <;> omega)) ?_
        refine tN ?_
        refine ⟨j + 1, ⟨hc, ?_⟩, by omega, weak_of (bs := []) [] trivial (by simp) trivial (by simp only [go_sem, Int.natCast_add, Int.natCast_one, lastT_next, Nat.reduceBEq])⟩
        exact all_step hjv (by rw [ok92, hd]; rfl)
    · have hc : j = l.recs.length := by simp at hc; omega
      subst hc
      refine wpA_exit (tE (tE (bE ?_)))
      refine tN ?_
      refine wpA_reg [4] [] rfl (by simp only [go_sem, Nat.reduceBEq, Nat.reduceAdd, Nat.reduceEqDiff, Nat.reduceLeDiff, Nat.reduceLT, Nat.reduceMul]; with_reducible rfl) (by first | trivial | omega | (simp +contextual [inI64] <;> omega)) ?_
      refine wpA_ret ?_
      refine endD (.inr rfl) (by simp only [go_sem, Nat.reduceBEq, Nat.reduceAdd, Nat.reduceEqDiff, Nat.reduceLeDiff, Nat.reduceLT, Nat.reduceMul]; with_reducible rfl) ?_
      simp only [go_sem]
      rw [log14, hjv, head92, h0]; rfl

theorem cb61 : callB Tryz.prog 61 = true := by kernel_rfl
theorem f61_walk (l : Lg) : CallsA Tryz.prog 61 [.agg (logV l)] [] (.d (boo (logR l))) [] := by
  refine callsA_lenA (k := 0) (i := 2) rfl rfl fun hlen => ?_
  rw [List.length_map] at hlen
  refine callsW_of (fn := Tryz.f61) [.tmp 2] Tryz.func61 rfl rfl (by show 1 ≤ 70; omega) ?_
  refine wpA_reg [1] [] rfl (by simp only [go_sem, Nat.reduceBEq, Nat.reduceAdd, Nat.reduceEqDiff, Nat.reduceLeDiff, Nat.reduceLT, Nat.reduceMul]; with_reducible rfl) (by first | trivial | omega | (simp +contextual [inI64] <;> omega)) ?_
  refine wpA_seq ?_
  refine wpA_reg [1, 39] [usePure (f85_walk (l.base) (0) (1073741824)) rfl cb85, usePure (f85_walk (l.bterm) (0) (1073741824)) rfl cb85] rfl (by simp only [go_sem, Nat.reduceBEq, Nat.reduceAdd, Nat.reduceEqDiff, Nat.reduceLeDiff, Nat.reduceLT, Nat.reduceMul]; with_reducible rfl) (by first | trivial | omega | (simp +contextual [inI64] <;> omega)) ?_
  refine wpA_cond rfl (fun hd => ?_) (fun hd => ?_)
  · have h0 := hd
    refine wpA_reg [2] [] rfl (by simp only [go_sem, Nat.reduceBEq, Nat.reduceAdd, Nat.reduceEqDiff, Nat.reduceLeDiff, Nat.reduceLT, Nat.reduceMul]; with_reducible rfl) (by first | trivial | omega | (simp +contextual [inI64] <;> omega)) ?_
    refine wpA_ret (tR ?_)
    refine endD (.inr rfl) (by simp only [go_sem, Nat.reduceBEq, Nat.reduceAdd, Nat.reduceEqDiff, Nat.reduceLeDiff, Nat.reduceLT, Nat.reduceMul]; with_reducible rfl) ?_
    simp only [go_sem]
    rw [logR, head61, hd]; rfl
  · have h0 := hd
    refine wpA_skip ?_
    refine tN ?_
    refine wpA_reg [1, 3] [] rfl (by simp only [go_sem, Nat.reduceBEq, Nat.reduceAdd, Nat.reduceEqDiff, Nat.reduceLeDiff, Nat.reduceLT, Nat.reduceMul]; with_reducible rfl) (by first | trivial | omega | (simp +contextual [inI64] <;> omega)) ?_
    refine wpA_seq ?_
    refine wpA_reg [3, 44, 45, 46] [] rfl (by simp only [go_sem, Nat.reduceBEq, Nat.reduceAdd, Nat.reduceEqDiff, Nat.reduceLeDiff, Nat.reduceLT, Nat.reduceMul]; with_reducible rfl) (by first | trivial | omega | (simp +contextual [inI64] <;> omega)) ?_
    refine wpA_block ?_
    refine wpA_loop (fun j : Nat => ⟨[(3, .d (i64 (lastT (max l.bterm 1) l.recs j))), (44, .d (recs l.recs)), (45, .d (i64 l.recs.length)), (46, .d (i64 j))], [], 0⟩) (fun j => j ≤ l.recs.length ∧ allTo (ok61 l) j = true) (fun j => l.recs.length - j) 0 (weak_of (bs := []) [] trivial (by simp) trivial (by simp only [go_sem, Int.natCast_zero, lastT_zero, Nat.reduceBEq])) ⟨Nat.zero_le _, rfl⟩ (fun j hj => ?_)
    obtain ⟨hj, hjv⟩ := hj
    refine wpA_reg [3, 44, 45, 46, 47] [] rfl (by simp only [go_sem, Nat.reduceBEq, Nat.reduceAdd, Nat.reduceEqDiff, Nat.reduceLeDiff, Nat.reduceLT, Nat.reduceMul]; with_reducible rfl) (by first | trivial | omega | (simp +contextual [inI64] <;> omega)) ?_
    refine wpA_seq ?_
    refine wpA_cond rfl (fun hc => ?_) (fun hc => ?_)
    · have hc : j < l.recs.length := by simpa using hc
      have hg := recs_getD l.recs hc
      have e : ((j : Int) - 1).toNat = j - 1 := by omega
      have hg2 := recs_getD l.recs (j := j - 1) (by omega)
      have hl := recs_len l.recs
      refine wpA_skip ?_
      refine tN ?_
      refine wpA_seq ?_
      refine wpA_block ?_
      refine wpA_reg [3, 5, 44, 45, 46] [] rfl (by simp only [go_sem, hg, hg2, e, encRec, Nat.reduceBEq, Nat.reduceAdd, Nat.reduceEqDiff, Nat.reduceLeDiff, Nat.reduceLT, Nat.reduceMul]; with_reducible rfl) (by first | trivial | omega | (simp +contextual [inI64, hl, hc] <;> omega)) ?_
      refine wpA_seq ?_
      refine wpA_reg [5, 44, 45, 46, 66] [usePure (f85_walk ((rAt l.recs j).term) (lastT (max l.bterm 1) l.recs j) (1073741824)) rfl cb85, usePure (f85_walk ((rAt l.recs j).kind) (0) (2)) rfl cb85] rfl (by simp only [go_sem, hg, hg2, e, encRec, Nat.reduceBEq, Nat.reduceAdd, Nat.reduceEqDiff, Nat.reduceLeDiff, Nat.reduceLT, Nat.reduceMul]; with_reducible rfl) (by first | trivial | omega | (simp +contextual [inI64, hl, hc] <;> omega)) ?_
      refine wpA_cond rfl (fun hd => ?_) (fun hd => ?_)
      · have h1 := hd
        refine wpA_reg [2] [] rfl (by simp only [go_sem, hg, hg2, e, encRec, Nat.reduceBEq, Nat.reduceAdd, Nat.reduceEqDiff, Nat.reduceLeDiff, Nat.reduceLT, Nat.reduceMul]; with_reducible rfl) (by first | trivial | omega | (simp +contextual [inI64, hl, hc] <;> omega)) ?_
        refine wpA_ret (tR (bR (tR (tR (bR (tR ?_))))))
        refine endD (.inr rfl) (by simp only [go_sem, Nat.reduceBEq, Nat.reduceAdd, Nat.reduceEqDiff, Nat.reduceLeDiff, Nat.reduceLT, Nat.reduceMul]; with_reducible rfl) ?_
        simp only [go_sem]
        rw [logR, all_no hc (by rw [ok61, hd]; rfl), Bool.and_false]
      · have h1 := hd
        refine wpA_skip ?_
        refine tN ?_
        refine wpA_region [3, 44, 45, 46] [] rfl (by simp only [go_sem, hg, hg2, e, encRec, Nat.reduceBEq, Nat.reduceAdd, Nat.reduceEqDiff, Nat.reduceLeDiff, Nat.reduceLT, Nat.reduceMul]; with_reducible rfl) (by first | trivial | omega | (simp +contextual [inI64, hl, hc] <;> omega)) ?_
        refine bN (tN ?_)
        refine wpA_region [3, 44, 45, 46] [] rfl (by simp only [go_sem, hg, hg2, e, encRec, Nat.reduceBEq, Nat.reduceAdd, Nat.reduceEqDiff, Nat.reduceLeDiff, Nat.reduceLT, Nat.reduceMul]; with_reducible rfl) (by first | trivial | omega | (simp +contextual [inI64, hl, hc] <;> omega)) ?_
        refine tN ?_
        refine ⟨j + 1, ⟨hc, ?_⟩, by omega, weak_of (bs := []) [] trivial (by simp) trivial (by simp only [go_sem, Int.natCast_add, Int.natCast_one, lastT_next, Nat.reduceBEq])⟩
        exact all_step hjv (by rw [ok61, hd]; rfl)
    · have hc : j = l.recs.length := by simp at hc; omega
      subst hc
      refine wpA_exit (tE (tE (bE ?_)))
      refine tN ?_
      refine wpA_reg [2] [] rfl (by simp only [go_sem, Nat.reduceBEq, Nat.reduceAdd, Nat.reduceEqDiff, Nat.reduceLeDiff, Nat.reduceLT, Nat.reduceMul]; with_reducible rfl) (by first | trivial | omega | (simp +contextual [inI64] <;> omega)) ?_
      refine wpA_ret ?_
      refine endD (.inr rfl) (by simp only [go_sem, Nat.reduceBEq, Nat.reduceAdd, Nat.reduceEqDiff, Nat.reduceLeDiff, Nat.reduceLT, Nat.reduceMul]; with_reducible rfl) ?_
      simp only [go_sem]
      rw [logR, hjv, head61, h0]; rfl

end Go.Abs
