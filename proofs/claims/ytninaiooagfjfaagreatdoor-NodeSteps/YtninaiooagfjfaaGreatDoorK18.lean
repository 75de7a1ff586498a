/- Walks: which states of a server are shaped. No conditions. -/
import Derived.Test.YtninaiooagfjfaaGreatDoorK17
set_option linter.unusedVariables false
set_option linter.unusedSimpArgs false
set_option maxRecDepth 20000
namespace Go.Abs
open Go Go.RowKit Go.Proofs

def head99 (h : Hard) : Bool := !(inB h.term 0 1073741824) || !(inB h.vote 0 9) || !(inB h.log.base 0 1073741824) || !(inB h.log.bterm 0 h.term) || (decide (h.log.base = 0) != decide (h.log.bterm = 0)) || decide (200 < (h.log.recs.length : Int)) || decide (1073741824 - (h.log.recs.length : Int) < h.log.base) || decide (7 < (h.voters.length : Int)) || decide (131072 < (h.snap.size : Int))
def ok99 (h : Hard) (j : Nat) : Bool := !(!(inB (rAt h.log.recs j).term (lastT (max h.log.bterm 1) h.log.recs j) h.term) || !(inB (rAt h.log.recs j).kind 0 2) || decide (8192 < ((rAt h.log.recs j).data.size : Int)))
def shaped (h : Hard) : Bool := !(head99 h) && (allTo (ok99 h) h.log.recs.length && rises h.voters)
theorem cb99 : callB Tryz.prog 99 = true := by kernel_rfl
theorem f99_walk (h : Hard) : CallsA Tryz.prog 99 [.agg (hardV h)] [] (.d (boo (shaped h))) [] := by
  refine callsA_lenA (k := 0) (i := 4) rfl rfl fun hlen => ?_
  rw [List.length_map] at hlen
  refine callsA_lenA (k := 0) (i := 6) rfl rfl fun hlen2 => ?_
  rw [List.length_map] at hlen2
  refine callsW_of (fn := Tryz.f99) [.tmp 2] Tryz.func99 rfl rfl (by show 1 ≤ 129; omega) ?_
  refine wpA_reg [1] [] rfl (by simp only [go_sem, Nat.reduceBEq, Nat.reduceAdd, Nat.reduceEqDiff, Nat.reduceLeDiff, Nat.reduceLT, Nat.reduceMul]; with_reducible rfl) (by first | trivial | omega | (simp +contextual [inI64] <;> omega)) ?_
  refine wpA_reg [1, 3] [] rfl (by simp only [go_sem, Nat.reduceBEq, Nat.reduceAdd, Nat.reduceEqDiff, Nat.reduceLeDiff, Nat.reduceLT, Nat.reduceMul]; with_reducible rfl) (by first | trivial | omega | (simp +contextual [inI64] <;> omega)) ?_
  refine wpA_seq ?_
  refine wpA_reg [1, 3, 70] [usePure (f110_walk (h.term) (0) (1073741824)) rfl cb110, usePure (f110_walk (h.vote) (0) (9)) rfl cb110, usePure (f110_walk (h.log.base) (0) (1073741824)) rfl cb110, usePure (f110_walk (h.log.bterm) (0) (h.term)) rfl cb110] rfl (by simp only [go_sem, Nat.reduceBEq, Nat.reduceAdd, Nat.reduceEqDiff, Nat.reduceLeDiff, Nat.reduceLT, Nat.reduceMul]; with_reducible rfl) (by first | trivial | omega | (simp +contextual [inI64] <;> omega)) ?_
  refine wpA_cond rfl (fun hd => ?_) (fun hd => ?_)
  · have h0 := hd
    refine wpA_reg [2] [] rfl (by simp only [go_sem, Nat.reduceBEq, Nat.reduceAdd, Nat.reduceEqDiff, Nat.reduceLeDiff, Nat.reduceLT, Nat.reduceMul]; with_reducible rfl) (by first | trivial | omega | (simp +contextual [inI64] <;> omega)) ?_
    refine wpA_ret (tR ?_)
    refine endD (.inr rfl) (by simp only [go_sem, Nat.reduceBEq, Nat.reduceAdd, Nat.reduceEqDiff, Nat.reduceLeDiff, Nat.reduceLT, Nat.reduceMul]; with_reducible rfl) ?_
    simp only [go_sem]
    rw [shaped, head99, hd]; rfl
  · have h0 := hd
    refine wpA_skip ?_
    refine tN ?_
    refine wpA_reg [1, 3, 4] [] rfl (by simp only [go_sem, Nat.reduceBEq, Nat.reduceAdd, Nat.reduceEqDiff, Nat.reduceLeDiff, Nat.reduceLT, Nat.reduceMul]; with_reducible rfl) (by first | trivial | omega | (simp +contextual [inI64] <;> omega)) ?_
    refine wpA_seq ?_
    refine wpA_reg [1, 4, 75, 76, 77] [] rfl (by simp only [go_sem, Nat.reduceBEq, Nat.reduceAdd, Nat.reduceEqDiff, Nat.reduceLeDiff, Nat.reduceLT, Nat.reduceMul]; with_reducible rfl) (by first | trivial | omega | (simp +contextual [inI64] <;> omega)) ?_
    refine wpA_block ?_
    refine wpA_loop (fun j : Nat => ⟨[(1, .ptr 0 0), (4, .d (i64 (lastT (max h.log.bterm 1) h.log.recs j))), (75, .d (recs h.log.recs)), (76, .d (i64 h.log.recs.length)), (77, .d (i64 j))], enum [.var 27 (hardV h)] 0, 1⟩) (fun j => j ≤ h.log.recs.length ∧ allTo (ok99 h) j = true) (fun j => h.log.recs.length - j) 0 (weak_of [0] trivial (by simp) (by simp only [go_sem, Int.natCast_zero, lastT_zero, Nat.reduceBEq, Nat.reduceAdd, Nat.reduceEqDiff, Nat.reduceLeDiff, Nat.reduceLT, Nat.reduceMul]) (by simp only [go_sem, Int.natCast_zero, lastT_zero, Nat.reduceBEq, Nat.reduceAdd, Nat.reduceEqDiff, Nat.reduceLeDiff, Nat.reduceLT, Nat.reduceMul])) ⟨Nat.zero_le _, rfl⟩ (fun j hj => ?_)
    obtain ⟨hj, hjv⟩ := hj
    refine wpA_reg [1, 4, 75, 76, 77, 78] [] rfl (by simp only [go_sem, Nat.reduceBEq, Nat.reduceAdd, Nat.reduceEqDiff, Nat.reduceLeDiff, Nat.reduceLT, Nat.reduceMul]; with_reducible rfl) (by first | trivial | omega | (simp +contextual [inI64] <;> omega)) ?_
    refine wpA_seq ?_
    refine wpA_cond rfl (fun hc => ?_) (fun hc => ?_)
    · have hc : j < h.log.recs.length := by simpa using hc
      have hg := recs_getD h.log.recs hc
      have e : ((j : Int) - 1).toNat = j - 1 := by omega
      have hg2 := recs_getD h.log.recs (j := j - 1) (by omega)
      have hl := recs_len h.log.recs
      refine wpA_skip ?_
      refine tN ?_
      refine wpA_seq ?_
      refine wpA_block ?_
      refine wpA_reg [1, 4, 6, 75, 76, 77] [] rfl (by simp only [go_sem, hg, hg2, e, encRec, Nat.reduceBEq, Nat.reduceAdd, Nat.reduceEqDiff, Nat.reduceLeDiff, Nat.reduceLT, Nat.reduceMul]; with_reducible rfl) (by first | trivial | omega | (simp +contextual [inI64, hl, hc] <;> omega)) ?_
      refine wpA_seq ?_
      refine wpA_reg [1, 6, 75, 76, 77, 99] [usePure (f110_walk ((rAt h.log.recs j).term) (lastT (max h.log.bterm 1) h.log.recs j) (h.term)) rfl cb110, usePure (f110_walk ((rAt h.log.recs j).kind) (0) (2)) rfl cb110] rfl (by simp only [go_sem, hg, hg2, e, encRec, Nat.reduceBEq, Nat.reduceAdd, Nat.reduceEqDiff, Nat.reduceLeDiff, Nat.reduceLT, Nat.reduceMul]; with_reducible rfl) (by first | trivial | omega | (simp +contextual [inI64, hl, hc] <;> omega)) ?_
      refine wpA_cond rfl (fun hd => ?_) (fun hd => ?_)
      · have h1 := hd
        refine wpA_reg [2] [] rfl (by simp only [go_sem, hg, hg2, e, encRec, Nat.reduceBEq, Nat.reduceAdd, Nat.reduceEqDiff, Nat.reduceLeDiff, Nat.reduceLT, Nat.reduceMul]; with_reducible rfl) (by first | trivial | omega | (simp +contextual [inI64, hl, hc] <;> omega)) ?_
        refine wpA_ret (tR (bR (tR (tR (bR (tR ?_))))))
        refine endD (.inr rfl) (by simp only [go_sem, Nat.reduceBEq, Nat.reduceAdd, Nat.reduceEqDiff, Nat.reduceLeDiff, Nat.reduceLT, Nat.reduceMul]; with_reducible rfl) ?_
        simp only [go_sem]
        rw [shaped, all_no hc (by rw [ok99, hd]; rfl), Bool.false_and, Bool.and_false]
      · have h1 := hd
        refine wpA_skip ?_
        refine tN ?_
        refine wpA_region [1, 4, 75, 76, 77] [] rfl (by simp only [go_sem, hg, hg2, e, encRec, Nat.reduceBEq, Nat.reduceAdd, Nat.reduceEqDiff, Nat.reduceLeDiff, Nat.reduceLT, Nat.reduceMul]; with_reducible rfl) (by first | trivial | omega | (simp +contextual [inI64, hl, hc] <;> omega)) ?_
        refine bN (tN ?_)
        refine wpA_region [1, 4, 75, 76, 77] [] rfl (by simp only [go_sem, hg, hg2, e, encRec, Nat.reduceBEq, Nat.reduceAdd, Nat.reduceEqDiff, Nat.reduceLeDiff, Nat.reduceLT, Nat.reduceMul]; with_reducible rfl) (by first | trivial | omega | (simp +contextual [inI64, hl, hc] <;> omega)) ?_
        refine tN ?_
        refine ⟨j + 1, ⟨hc, ?_⟩, by omega, weak_of [0] trivial (by simp) (by simp only [go_sem, Int.natCast_add, Int.natCast_one, lastT_next, Nat.reduceBEq, Nat.reduceAdd, Nat.reduceEqDiff, Nat.reduceLeDiff, Nat.reduceLT, Nat.reduceMul]) (by simp only [go_sem, Int.natCast_add, Int.natCast_one, lastT_next, Nat.reduceBEq, Nat.reduceAdd, Nat.reduceEqDiff, Nat.reduceLeDiff, Nat.reduceLT, Nat.reduceMul])⟩
        exact all_step hjv (by rw [ok99, hd]; rfl)
    · have hc : j = h.log.recs.length := by simp at hc; omega
      subst hc
      have hall0 := hjv
      refine wpA_exit (tE (tE (bE ?_)))
      refine tN ?_
      refine wpA_seq ?_
      refine wpA_reg [1, 104, 105, 106] [] rfl (by simp only [go_sem, Nat.reduceBEq, Nat.reduceAdd, Nat.reduceEqDiff, Nat.reduceLeDiff, Nat.reduceLT, Nat.reduceMul]; with_reducible rfl) (by first | trivial | omega | (simp +contextual [inI64] <;> omega)) ?_
      refine wpA_block ?_
      refine wpA_loop (fun j : Nat => ⟨[(1, .ptr 0 0), (104, .d (ints h.voters)), (105, .d (i64 h.voters.length)), (106, .d (i64 j))], enum [.var 27 (hardV h)] 0, 1⟩) (fun j => j ≤ h.voters.length ∧ allTo (okR h.voters) j = true) (fun j => h.voters.length - j) 0 (weak_of [0] trivial (by simp) (by simp only [go_sem, Int.natCast_zero, Nat.reduceBEq, Nat.reduceAdd, Nat.reduceEqDiff, Nat.reduceLeDiff, Nat.reduceLT, Nat.reduceMul]) (by simp only [go_sem, Int.natCast_zero, Nat.reduceBEq, Nat.reduceAdd, Nat.reduceEqDiff, Nat.reduceLeDiff, Nat.reduceLT, Nat.reduceMul])) ⟨Nat.zero_le _, rfl⟩ (fun j hj => ?_)
      obtain ⟨hj, hjv⟩ := hj
      refine wpA_reg [1, 104, 105, 106, 107] [] rfl (by simp only [go_sem, Nat.reduceBEq, Nat.reduceAdd, Nat.reduceEqDiff, Nat.reduceLeDiff, Nat.reduceLT, Nat.reduceMul]; with_reducible rfl) (by first | trivial | omega | (simp +contextual [inI64] <;> omega)) ?_
      refine wpA_seq ?_
      refine wpA_cond rfl (fun hc => ?_) (fun hc => ?_)
      · have hc : j < h.voters.length := by simpa using hc
        have hg := ints_getD h.voters hc
        have e : ((j : Int) - 1).toNat = j - 1 := by omega
        have hg2 := ints_getD h.voters (j := j - 1) (by omega)
        have hl := ints_len h.voters
        refine wpA_skip ?_
        refine tN ?_
        refine wpA_seq ?_
        refine wpA_block ?_
        refine wpA_reg [1, 7, 8, 104, 105, 106] [] rfl (by simp only [go_sem, hg, hg2, e, encI, Nat.reduceBEq, Nat.reduceAdd, Nat.reduceEqDiff, Nat.reduceLeDiff, Nat.reduceLT, Nat.reduceMul]; with_reducible rfl) (by first | trivial | omega | (simp +contextual [inI64, hl, hc] <;> omega)) ?_
        refine wpA_reg [1, 104, 105, 106, 127] [usePure (f110_walk (iAt h.voters j) (1) (9)) rfl cb110] rfl (by simp only [go_sem, hg, hg2, e, encI, Nat.reduceBEq, Nat.reduceAdd, Nat.reduceEqDiff, Nat.reduceLeDiff, Nat.reduceLT, Nat.reduceMul]; with_reducible rfl) (by first | trivial | omega | (simp +contextual [inI64, hl, hc] <;> omega)) ?_
        refine wpA_cond rfl (fun hd => ?_) (fun hd => ?_)
        · have h1 := hd
          refine wpA_reg [2] [] rfl (by simp only [go_sem, hg, hg2, e, encI, Nat.reduceBEq, Nat.reduceAdd, Nat.reduceEqDiff, Nat.reduceLeDiff, Nat.reduceLT, Nat.reduceMul]; with_reducible rfl) (by first | trivial | omega | (simp +contextual [inI64, hl, hc] <;> omega)) ?_
          refine wpA_ret (bR (tR (tR (bR (tR ?_)))))
          refine endD (.inr rfl) (by simp only [go_sem, Nat.reduceBEq, Nat.reduceAdd, Nat.reduceEqDiff, Nat.reduceLeDiff, Nat.reduceLT, Nat.reduceMul]; with_reducible rfl) ?_
          simp only [go_sem]
          rw [shaped, rises, all_no hc (by rw [okR, hd]; rfl), Bool.and_false, Bool.and_false]
        · have h1 := hd
          refine wpA_skip ?_
          refine bN (tN ?_)
          refine wpA_region [1, 104, 105, 106] [] rfl (by simp only [go_sem, hg, hg2, e, encI, Nat.reduceBEq, Nat.reduceAdd, Nat.reduceEqDiff, Nat.reduceLeDiff, Nat.reduceLT, Nat.reduceMul]; with_reducible rfl) (by first | trivial | omega | (simp +contextual [inI64, hl, hc] <;> omega)) ?_
          refine tN ?_
          refine ⟨j + 1, ⟨hc, ?_⟩, by omega, weak_of [0] trivial (by simp) (by simp only [go_sem, Int.natCast_add, Int.natCast_one, Nat.reduceBEq, Nat.reduceAdd, Nat.reduceEqDiff, Nat.reduceLeDiff, Nat.reduceLT, Nat.reduceMul]) (by simp only [go_sem, Int.natCast_add, Int.natCast_one, Nat.reduceBEq, Nat.reduceAdd, Nat.reduceEqDiff, Nat.reduceLeDiff, Nat.reduceLT, Nat.reduceMul])⟩
          exact all_step hjv (by rw [okR, hd]; rfl)
      · have hc : j = h.voters.length := by simp at hc; omega
        subst hc
        have hall1 := hjv
        refine wpA_exit (tE (tE (bE ?_)))
        refine tN ?_
        refine wpA_reg [2] [] rfl (by simp only [go_sem, Nat.reduceBEq, Nat.reduceAdd, Nat.reduceEqDiff, Nat.reduceLeDiff, Nat.reduceLT, Nat.reduceMul]; with_reducible rfl) (by first | trivial | omega | (simp +contextual [inI64] <;> omega)) ?_
        refine wpA_ret ?_
        refine endD (.inr rfl) (by simp only [go_sem, Nat.reduceBEq, Nat.reduceAdd, Nat.reduceEqDiff, Nat.reduceLeDiff, Nat.reduceLT, Nat.reduceMul]; with_reducible rfl) ?_
        simp only [go_sem]
        rw [shaped, rises, hall0, hall1, head99, h0]; rfl

end Go.Abs
