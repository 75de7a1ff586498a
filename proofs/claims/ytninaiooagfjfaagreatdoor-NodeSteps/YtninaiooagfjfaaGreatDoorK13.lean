/- Walks: which lists rise, which voters are right. No conditions. -/
import Derived.Test.YtninaiooagfjfaaGreatDoorK12
set_option linter.unusedVariables false
set_option linter.unusedSimpArgs false
namespace Go.Abs
open Go Go.RowKit Go.Proofs

def okR (l : List Int) (j : Nat) : Bool := !(!(inB (iAt l j) 1 9) || (decide (0 < (j : Int)) && decide (iAt l j ≤ iAt l (j - 1))))
def rises (l : List Int) : Bool := allTo (okR l) l.length
def voters14 (l : List Int) : Bool := allTo (okR l) l.length && decide ((l.length : Int) ≤ 7)
def okV (l : List Int) (j : Nat) : Bool := !(decide (iAt l j < 1) || decide (9 < iAt l j) || (decide (0 < (j : Int)) && decide (iAt l j ≤ iAt l (j - 1))))
def right (l : List Int) : Bool := allTo (okV l) l.length && (decide (1 ≤ (l.length : Int)) && decide ((l.length : Int) ≤ 7))
theorem right_len {l : List Int} (h : ¬ (1 ≤ l.length ∧ l.length ≤ 7)) : right l = false := by
  have : (decide (1 ≤ (l.length : Int)) && decide ((l.length : Int) ≤ 7)) = false := by simp; omega
  rw [right, this, Bool.and_false]
theorem cb33 : callB Tryz.prog 33 = true := by kernel_rfl
theorem f33_walk (l : List Int) : CallsA Tryz.prog 33 [.d (ints l)] [] (.d (boo (rises l))) [] := by
  refine callsA_len (k := 0) rfl fun hlen => ?_
  rw [List.length_map] at hlen
  refine callsW_of (fn := Tryz.f33) [.tmp 2] Tryz.func33 rfl rfl (by show 1 ≤ 29; omega) ?_
  refine wpA_reg [0] [] rfl (by simp only [go_sem, Nat.reduceBEq, Nat.reduceAdd, Nat.reduceEqDiff, Nat.reduceLeDiff, Nat.reduceLT, Nat.reduceMul]; with_reducible rfl) (by simp) ?_
  refine wpA_seq ?_
  refine wpA_reg [0, 5, 6, 7] [] rfl (by simp only [go_sem, Nat.reduceBEq, Nat.reduceAdd, Nat.reduceEqDiff, Nat.reduceLeDiff, Nat.reduceLT, Nat.reduceMul]; with_reducible rfl) (by simp) ?_
  refine wpA_block ?_
  refine wpA_loop (fun j : Nat => ⟨[(0, .d (ints l)), (5, .d (ints l)), (6, .d (i64 l.length)), (7, .d (i64 j))], [], 0⟩) (fun j => j ≤ l.length ∧ allTo (okR l) j = true) (fun j => l.length - j) 0 (weak_of (bs := []) [] trivial (by simp) trivial (by simp only [go_sem, Int.natCast_zero, Nat.reduceBEq])) ⟨Nat.zero_le _, rfl⟩ (fun j hj => ?_)
  obtain ⟨hj, hjv⟩ := hj
  refine wpA_reg [0, 5, 6, 7, 8] [] rfl (by simp only [go_sem, Nat.reduceBEq, Nat.reduceAdd, Nat.reduceEqDiff, Nat.reduceLeDiff, Nat.reduceLT, Nat.reduceMul]; with_reducible rfl) (by simp) ?_
  refine wpA_seq ?_
  refine wpA_cond rfl (fun hc => ?_) (fun hc => ?_)
  · have hc : j < l.length := by simpa using hc
    have hg := ints_getD l hc
    have e : ((j : Int) - 1).toNat = j - 1 := by omega
    have hg2 := ints_getD l (j := j - 1) (by omega)
    have hl := ints_len l
    refine wpA_skip ?_
    refine tN ?_
    refine wpA_seq ?_
    refine wpA_block ?_
    refine wpA_reg [0, 3, 4, 5, 6, 7] [] rfl (by simp only [go_sem, hg, hg2, e, encI, Nat.reduceBEq, Nat.reduceAdd, Nat.reduceEqDiff, Nat.reduceLeDiff, Nat.reduceLT, Nat.reduceMul]; with_reducible rfl) (by first | trivial | omega | (simp +contextual [inI64, hl, hc] <;> omega)) ?_
    refine wpA_reg [0, 5, 6, 7, 27] [usePure (f30_walk (iAt l j) (1) (9)) rfl cb30] rfl (by simp only [go_sem, hg, hg2, e, encI, Nat.reduceBEq, Nat.reduceAdd, Nat.reduceEqDiff, Nat.reduceLeDiff, Nat.reduceLT, Nat.reduceMul]; with_reducible rfl) (by first | trivial | omega | (simp +contextual [inI64, hl, hc] <;> omega)) ?_
    refine wpA_cond rfl (fun hd => ?_) (fun hd => ?_)
    · refine wpA_reg [2] [] rfl (by simp only [go_sem, hg, hg2, e, encI, Nat.reduceBEq, Nat.reduceAdd, Nat.reduceEqDiff, Nat.reduceLeDiff, Nat.reduceLT, Nat.reduceMul]; with_reducible rfl) (by first | trivial | omega | (simp +contextual [inI64, hl, hc] <;> omega)) ?_
      refine wpA_ret (bR (tR (tR (bR (tR ?_)))))
      refine endD (.inr rfl) (by simp only [go_sem, Nat.reduceBEq, Nat.reduceAdd, Nat.reduceEqDiff, Nat.reduceLeDiff, Nat.reduceLT, Nat.reduceMul]; with_reducible rfl) ?_
      simp only [go_sem]
      rw [rises, all_no hc (by rw [okR, hd]; rfl)]
    · refine wpA_skip ?_
      refine bN (tN ?_)
      refine wpA_region [0, 5, 6, 7] [] rfl (by simp only [go_sem, hg, hg2, e, encI, Nat.reduceBEq, Nat.reduceAdd, Nat.reduceEqDiff, Nat.reduceLeDiff, Nat.reduceLT, Nat.reduceMul]; with_reducible rfl) (by first | trivial | omega | (simp +contextual [inI64, hl, hc] <;> omega)) ?_
      refine tN ?_
      refine ⟨j + 1, ⟨hc, ?_⟩, by omega, weak_of (bs := []) [] trivial (by simp) trivial (by simp only [go_sem, Int.natCast_add, Int.natCast_one, Nat.reduceBEq])⟩
      exact all_step hjv (by rw [okR, hd]; rfl)
  · have hc : j = l.length := by simp at hc; omega
    subst hc
    refine wpA_exit (tE (tE (bE ?_)))
    refine tN ?_
    refine wpA_reg [2] [] rfl (by simp only [go_sem, Nat.reduceBEq, Nat.reduceAdd, Nat.reduceEqDiff, Nat.reduceLeDiff, Nat.reduceLT, Nat.reduceMul]; with_reducible rfl) (by simp) ?_
    refine wpA_ret ?_
    refine endD (.inr rfl) (by simp only [go_sem, Nat.reduceBEq, Nat.reduceAdd, Nat.reduceEqDiff, Nat.reduceLeDiff, Nat.reduceLT, Nat.reduceMul]; with_reducible rfl) ?_
    simp only [go_sem]
    rw [rises, hjv]

theorem cb58 : callB Tryz.prog 58 = true := by kernel_rfl
theorem f58_walk (l : List Int) : CallsA Tryz.prog 58 [.d (ints l)] [] (.d (boo (rises l))) [] := by
  refine callsA_len (k := 0) rfl fun hlen => ?_
  rw [List.length_map] at hlen
  refine callsW_of (fn := Tryz.f58) [.tmp 2] Tryz.func58 rfl rfl (by show 1 ≤ 29; omega) ?_
  refine wpA_reg [0] [] rfl (by simp only [go_sem, Nat.reduceBEq, Nat.reduceAdd, Nat.reduceEqDiff, Nat.reduceLeDiff, Nat.reduceLT, Nat.reduceMul]; with_reducible rfl) (by simp) ?_
  refine wpA_seq ?_
  refine wpA_reg [0, 5, 6, 7] [] rfl (by simp only [go_sem, Nat.reduceBEq, Nat.reduceAdd, Nat.reduceEqDiff, Nat.reduceLeDiff, Nat.reduceLT, Nat.reduceMul]; with_reducible rfl) (by simp) ?_
  refine wpA_block ?_
  refine wpA_loop (fun j : Nat => ⟨[(0, .d (ints l)), (5, .d (ints l)), (6, .d (i64 l.length)), (7, .d (i64 j))], [], 0⟩) (fun j => j ≤ l.length ∧ allTo (okR l) j = true) (fun j => l.length - j) 0 (weak_of (bs := []) [] trivial (by simp) trivial (by simp only [go_sem, Int.natCast_zero, Nat.reduceBEq])) ⟨Nat.zero_le _, rfl⟩ (fun j hj => ?_)
  obtain ⟨hj, hjv⟩ := hj
  refine wpA_reg [0, 5, 6, 7, 8] [] rfl (by simp only [go_sem, Nat.reduceBEq, Nat.reduceAdd, Nat.reduceEqDiff, Nat.reduceLeDiff, Nat.reduceLT, Nat.reduceMul]; with_reducible rfl) (by simp) ?_
  refine wpA_seq ?_
  refine wpA_cond rfl (fun hc => ?_) (fun hc => ?_)
  · have hc : j < l.length := by simpa using hc
    have hg := ints_getD l hc
    have e : ((j : Int) - 1).toNat = j - 1 := by omega
    have hg2 := ints_getD l (j := j - 1) (by omega)
    have hl := ints_len l
    refine wpA_skip ?_
    refine tN ?_
    refine wpA_seq ?_
    refine wpA_block ?_
    refine wpA_reg [0, 3, 4, 5, 6, 7] [] rfl (by simp only [go_sem, hg, hg2, e, encI, Nat.reduceBEq, Nat.reduceAdd, Nat.reduceEqDiff, Nat.reduceLeDiff, Nat.reduceLT, Nat.reduceMul]; with_reducible rfl) (by first | trivial | omega | (simp +contextual [inI64, hl, hc] <;> omega)) ?_
    refine wpA_reg [0, 5, 6, 7, 27] [usePure (f54_walk (iAt l j) (1) (9)) rfl cb54] rfl (by simp only [go_sem, hg, hg2, e, encI, Nat.reduceBEq, Nat.reduceAdd, Nat.reduceEqDiff, Nat.reduceLeDiff, Nat.reduceLT, Nat.reduceMul]; with_reducible rfl) (by first | trivial | omega | (simp +contextual [inI64, hl, hc] <;> omega)) ?_
    refine wpA_cond rfl (fun hd => ?_) (fun hd => ?_)
    · refine wpA_reg [2] [] rfl (by simp only [go_sem, hg, hg2, e, encI, Nat.reduceBEq, Nat.reduceAdd, Nat.reduceEqDiff, Nat.reduceLeDiff, Nat.reduceLT, Nat.reduceMul]; with_reducible rfl) (by first | trivial | omega | (simp +contextual [inI64, hl, hc] <;> omega)) ?_
      refine wpA_ret (bR (tR (tR (bR (tR ?_)))))
      refine endD (.inr rfl) (by simp only [go_sem, Nat.reduceBEq, Nat.reduceAdd, Nat.reduceEqDiff, Nat.reduceLeDiff, Nat.reduceLT, Nat.reduceMul]; with_reducible rfl) ?_
      simp only [go_sem]
      rw [rises, all_no hc (by rw [okR, hd]; rfl)]
    · refine wpA_skip ?_
      refine bN (tN ?_)
      refine wpA_region [0, 5, 6, 7] [] rfl (by simp only [go_sem, hg, hg2, e, encI, Nat.reduceBEq, Nat.reduceAdd, Nat.reduceEqDiff, Nat.reduceLeDiff, Nat.reduceLT, Nat.reduceMul]; with_reducible rfl) (by first | trivial | omega | (simp +contextual [inI64, hl, hc] <;> omega)) ?_
      refine tN ?_
      refine ⟨j + 1, ⟨hc, ?_⟩, by omega, weak_of (bs := []) [] trivial (by simp) trivial (by simp only [go_sem, Int.natCast_add, Int.natCast_one, Nat.reduceBEq])⟩
      exact all_step hjv (by rw [okR, hd]; rfl)
  · have hc : j = l.length := by simp at hc; omega
    subst hc
    refine wpA_exit (tE (tE (bE ?_)))
    refine tN ?_
    refine wpA_reg [2] [] rfl (by simp only [go_sem, Nat.reduceBEq, Nat.reduceAdd, Nat.reduceEqDiff, Nat.reduceLeDiff, Nat.reduceLT, Nat.reduceMul]; with_reducible rfl) (by simp) ?_
    refine wpA_ret ?_
    refine endD (.inr rfl) (by simp only [go_sem, Nat.reduceBEq, Nat.reduceAdd, Nat.reduceEqDiff, Nat.reduceLeDiff, Nat.reduceLT, Nat.reduceMul]; with_reducible rfl) ?_
    simp only [go_sem]
    rw [rises, hjv]

theorem cb93 : callB Tryz.prog 93 = true := by kernel_rfl
theorem f93_walk (l : List Int) : CallsA Tryz.prog 93 [.d (ints l)] [] (.d (boo (voters14 l))) [] := by
  refine callsA_len (k := 0) rfl fun hlen => ?_
  rw [List.length_map] at hlen
  refine callsW_of (fn := Tryz.f93) [.tmp 2] Tryz.func93 rfl rfl (by show 1 ≤ 32; omega) ?_
  refine wpA_reg [0] [] rfl (by simp only [go_sem, Nat.reduceBEq, Nat.reduceAdd, Nat.reduceEqDiff, Nat.reduceLeDiff, Nat.reduceLT, Nat.reduceMul]; with_reducible rfl) (by simp) ?_
  refine wpA_seq ?_
  refine wpA_reg [0, 5, 6, 7] [] rfl (by simp only [go_sem, Nat.reduceBEq, Nat.reduceAdd, Nat.reduceEqDiff, Nat.reduceLeDiff, Nat.reduceLT, Nat.reduceMul]; with_reducible rfl) (by simp) ?_
  refine wpA_block ?_
  refine wpA_loop (fun j : Nat => ⟨[(0, .d (ints l)), (5, .d (ints l)), (6, .d (i64 l.length)), (7, .d (i64 j))], [], 0⟩) (fun j => j ≤ l.length ∧ allTo (okR l) j = true) (fun j => l.length - j) 0 (weak_of (bs := []) [] trivial (by simp) trivial (by simp only [go_sem, Int.natCast_zero, Nat.reduceBEq])) ⟨Nat.zero_le _, rfl⟩ (fun j hj => ?_)
  obtain ⟨hj, hjv⟩ := hj
  refine wpA_reg [0, 5, 6, 7, 8] [] rfl (by simp only [go_sem, Nat.reduceBEq, Nat.reduceAdd, Nat.reduceEqDiff, Nat.reduceLeDiff, Nat.reduceLT, Nat.reduceMul]; with_reducible rfl) (by simp) ?_
  refine wpA_seq ?_
  refine wpA_cond rfl (fun hc => ?_) (fun hc => ?_)
  · have hc : j < l.length := by simpa using hc
    have hg := ints_getD l hc
    have e : ((j : Int) - 1).toNat = j - 1 := by omega
    have hg2 := ints_getD l (j := j - 1) (by omega)
    have hl := ints_len l
    refine wpA_skip ?_
    refine tN ?_
    refine wpA_seq ?_
    refine wpA_block ?_
    refine wpA_reg [0, 3, 4, 5, 6, 7] [] rfl (by simp only [go_sem, hg, hg2, e, encI, Nat.reduceBEq, Nat.reduceAdd, Nat.reduceEqDiff, Nat.reduceLeDiff, Nat.reduceLT, Nat.reduceMul]; with_reducible rfl) (by first | trivial | omega | (simp +contextual [inI64, hl, hc] <;> omega)) ?_
    refine wpA_reg [0, 5, 6, 7, 27] [usePure (f91_walk (iAt l j) (1) (9)) rfl cb91] rfl (by simp only [go_sem, hg, hg2, e, encI, Nat.reduceBEq, Nat.reduceAdd, Nat.reduceEqDiff, Nat.reduceLeDiff, Nat.reduceLT, Nat.reduceMul]; with_reducible rfl) (by first | trivial | omega | (simp +contextual [inI64, hl, hc] <;> omega)) ?_
    refine wpA_cond rfl (fun hd => ?_) (fun hd => ?_)
    · refine wpA_reg [2] [] rfl (by simp only [go_sem, hg, hg2, e, encI, Nat.reduceBEq, Nat.reduceAdd, Nat.reduceEqDiff, Nat.reduceLeDiff, Nat.reduceLT, Nat.reduceMul]; with_reducible rfl) (by first | trivial | omega | (simp +contextual [inI64, hl, hc] <;> omega)) ?_
      refine wpA_ret (bR (tR (tR (bR (tR ?_)))))
      refine endD (.inr rfl) (by simp only [go_sem, Nat.reduceBEq, Nat.reduceAdd, Nat.reduceEqDiff, Nat.reduceLeDiff, Nat.reduceLT, Nat.reduceMul]; with_reducible rfl) ?_
      simp only [go_sem]
      rw [voters14, all_no hc (by rw [okR, hd]; rfl)]
      rfl
    · refine wpA_skip ?_
      refine bN (tN ?_)
      refine wpA_region [0, 5, 6, 7] [] rfl (by simp only [go_sem, hg, hg2, e, encI, Nat.reduceBEq, Nat.reduceAdd, Nat.reduceEqDiff, Nat.reduceLeDiff, Nat.reduceLT, Nat.reduceMul]; with_reducible rfl) (by first | trivial | omega | (simp +contextual [inI64, hl, hc] <;> omega)) ?_
      refine tN ?_
      refine ⟨j + 1, ⟨hc, ?_⟩, by omega, weak_of (bs := []) [] trivial (by simp) trivial (by simp only [go_sem, Int.natCast_add, Int.natCast_one, Nat.reduceBEq])⟩
      exact all_step hjv (by rw [okR, hd]; rfl)
  · have hc : j = l.length := by simp at hc; omega
    subst hc
    refine wpA_exit (tE (tE (bE ?_)))
    refine tN ?_
    refine wpA_reg [2] [] rfl (by simp only [go_sem, Nat.reduceBEq, Nat.reduceAdd, Nat.reduceEqDiff, Nat.reduceLeDiff, Nat.reduceLT, Nat.reduceMul]; with_reducible rfl) (by simp) ?_
    refine wpA_ret ?_
    refine endD (.inr rfl) (by simp only [go_sem, Nat.reduceBEq, Nat.reduceAdd, Nat.reduceEqDiff, Nat.reduceLeDiff, Nat.reduceLT, Nat.reduceMul]; with_reducible rfl) ?_
    simp only [go_sem]
    rw [voters14, hjv]
    rfl

theorem cb32 : callB Tryz.prog 32 = true := by kernel_rfl
theorem f32_walk (l : List Int) : CallsA Tryz.prog 32 [.d (ints l)] [] (.d (boo (right l))) [] := by
  refine callsA_len (k := 0) rfl fun hlen => ?_
  rw [List.length_map] at hlen
  refine callsW_of (fn := Tryz.f32) [.tmp 2] Tryz.func32 rfl rfl (by show 1 ≤ 40; omega) ?_
  refine wpA_reg [0] [] rfl (by simp only [go_sem, Nat.reduceBEq, Nat.reduceAdd, Nat.reduceEqDiff, Nat.reduceLeDiff, Nat.reduceLT, Nat.reduceMul]; with_reducible rfl) (by simp) ?_
  refine wpA_seq ?_
  refine wpA_reg [0, 5, 6, 7] [] rfl (by simp only [go_sem, Nat.reduceBEq, Nat.reduceAdd, Nat.reduceEqDiff, Nat.reduceLeDiff, Nat.reduceLT, Nat.reduceMul]; with_reducible rfl) (by simp) ?_
  refine wpA_block ?_
  refine wpA_loop (fun j : Nat => ⟨[(0, .d (ints l)), (5, .d (ints l)), (6, .d (i64 l.length)), (7, .d (i64 j))], [], 0⟩) (fun j => j ≤ l.length ∧ allTo (okV l) j = true) (fun j => l.length - j) 0 (weak_of (bs := []) [] trivial (by simp) trivial (by simp only [go_sem, Int.natCast_zero, Nat.reduceBEq])) ⟨Nat.zero_le _, rfl⟩ (fun j hj => ?_)
  obtain ⟨hj, hjv⟩ := hj
  refine wpA_reg [0, 5, 6, 7, 8] [] rfl (by simp only [go_sem, Nat.reduceBEq, Nat.reduceAdd, Nat.reduceEqDiff, Nat.reduceLeDiff, Nat.reduceLT, Nat.reduceMul]; with_reducible rfl) (by simp) ?_
  refine wpA_seq ?_
  refine wpA_cond rfl (fun hc => ?_) (fun hc => ?_)
  · have hc : j < l.length := by simpa using hc
    have hg := ints_getD l hc
    have e : ((j : Int) - 1).toNat = j - 1 := by omega
    have hg2 := ints_getD l (j := j - 1) (by omega)
    have hl := ints_len l
    refine wpA_skip ?_
    refine tN ?_
    refine wpA_seq ?_
    refine wpA_block ?_
    refine wpA_reg [0, 3, 4, 5, 6, 7] [] rfl (by simp only [go_sem, hg, hg2, e, encI, Nat.reduceBEq, Nat.reduceAdd, Nat.reduceEqDiff, Nat.reduceLeDiff, Nat.reduceLT, Nat.reduceMul]; with_reducible rfl) (by first | trivial | omega | (simp +contextual [inI64, hl, hc] <;> omega)) ?_
    refine wpA_reg [0, 5, 6, 7, 30] [] rfl (by simp only [go_sem, hg, hg2, e, encI, Nat.reduceBEq, Nat.reduceAdd, Nat.reduceEqDiff, Nat.reduceLeDiff, Nat.reduceLT, Nat.reduceMul]; with_reducible rfl) (by first | trivial | omega | (simp +contextual [inI64, hl, hc] <;> omega)) ?_
    refine wpA_cond rfl (fun hd => ?_) (fun hd => ?_)
    · refine wpA_reg [2] [] rfl (by simp only [go_sem, hg, hg2, e, encI, Nat.reduceBEq, Nat.reduceAdd, Nat.reduceEqDiff, Nat.reduceLeDiff, Nat.reduceLT, Nat.reduceMul]; with_reducible rfl) (by first | trivial | omega | (simp +contextual [inI64, hl, hc] <;> omega)) ?_
      refine wpA_ret (bR (tR (tR (bR (tR ?_)))))
      refine endD (.inr rfl) (by simp only [go_sem, Nat.reduceBEq, Nat.reduceAdd, Nat.reduceEqDiff, Nat.reduceLeDiff, Nat.reduceLT, Nat.reduceMul]; with_reducible rfl) ?_
      simp only [go_sem]
      rw [right, all_no hc (by rw [okV, hd]; rfl)]
      rfl
    · refine wpA_skip ?_
      refine bN (tN ?_)
      refine wpA_region [0, 5, 6, 7] [] rfl (by simp only [go_sem, hg, hg2, e, encI, Nat.reduceBEq, Nat.reduceAdd, Nat.reduceEqDiff, Nat.reduceLeDiff, Nat.reduceLT, Nat.reduceMul]; with_reducible rfl) (by first | trivial | omega | (simp +contextual [inI64, hl, hc] <;> omega)) ?_
      refine tN ?_
      refine ⟨j + 1, ⟨hc, ?_⟩, by omega, weak_of (bs := []) [] trivial (by simp) trivial (by simp only [go_sem, Int.natCast_add, Int.natCast_one, Nat.reduceBEq])⟩
      exact all_step hjv (by rw [okV, hd]; rfl)
  · have hc : j = l.length := by simp at hc; omega
    subst hc
    refine wpA_exit (tE (tE (bE ?_)))
    refine tN ?_
    refine wpA_reg [2] [] rfl (by simp only [go_sem, Nat.reduceBEq, Nat.reduceAdd, Nat.reduceEqDiff, Nat.reduceLeDiff, Nat.reduceLT, Nat.reduceMul]; with_reducible rfl) (by simp) ?_
    refine wpA_ret ?_
    refine endD (.inr rfl) (by simp only [go_sem, Nat.reduceBEq, Nat.reduceAdd, Nat.reduceEqDiff, Nat.reduceLeDiff, Nat.reduceLT, Nat.reduceMul]; with_reducible rfl) ?_
    simp only [go_sem]
    rw [right, hjv]
    rfl

theorem cb56 : callB Tryz.prog 56 = true := by kernel_rfl
theorem f56_walk (l : List Int) : CallsA Tryz.prog 56 [.d (ints l)] [] (.d (boo (right l))) [] := by
  refine callsA_len (k := 0) rfl fun hlen => ?_
  rw [List.length_map] at hlen
  refine callsW_of (fn := Tryz.f56) [.tmp 2] Tryz.func56 rfl rfl (by show 1 ≤ 40; omega) ?_
  refine wpA_reg [0] [] rfl (by simp only [go_sem, Nat.reduceBEq, Nat.reduceAdd, Nat.reduceEqDiff, Nat.reduceLeDiff, Nat.reduceLT, Nat.reduceMul]; with_reducible rfl) (by simp) ?_
  refine wpA_seq ?_
  refine wpA_reg [0, 12] [] rfl (by simp only [go_sem, Nat.reduceBEq, Nat.reduceAdd, Nat.reduceEqDiff, Nat.reduceLeDiff, Nat.reduceLT, Nat.reduceMul]; with_reducible rfl) (by simp) ?_
  refine wpA_cond rfl (fun hd => ?_) (fun hd => ?_)
  · refine wpA_reg [2] [] rfl (by simp only [go_sem, Nat.reduceBEq, Nat.reduceAdd, Nat.reduceEqDiff, Nat.reduceLeDiff, Nat.reduceLT, Nat.reduceMul]; with_reducible rfl) (by simp) ?_
    refine wpA_ret (tR ?_)
    refine endD (.inr rfl) (by simp only [go_sem, Nat.reduceBEq, Nat.reduceAdd, Nat.reduceEqDiff, Nat.reduceLeDiff, Nat.reduceLT, Nat.reduceMul]; with_reducible rfl) ?_
    simp only [go_sem]
    rw [right_len (by simp at hd; omega)]
  · have hlenb := hd
    refine wpA_skip ?_
    refine tN ?_
    refine wpA_seq ?_
    refine wpA_reg [0, 13, 14, 15] [] rfl (by simp only [go_sem, Nat.reduceBEq, Nat.reduceAdd, Nat.reduceEqDiff, Nat.reduceLeDiff, Nat.reduceLT, Nat.reduceMul]; with_reducible rfl) (by simp) ?_
    refine wpA_block ?_
    refine wpA_loop (fun j : Nat => ⟨[(0, .d (ints l)), (13, .d (ints l)), (14, .d (i64 l.length)), (15, .d (i64 j))], [], 0⟩) (fun j => j ≤ l.length ∧ allTo (okV l) j = true) (fun j => l.length - j) 0 (weak_of (bs := []) [] trivial (by simp) trivial (by simp only [go_sem, Int.natCast_zero, Nat.reduceBEq])) ⟨Nat.zero_le _, rfl⟩ (fun j hj => ?_)
    obtain ⟨hj, hjv⟩ := hj
    refine wpA_reg [0, 13, 14, 15, 16] [] rfl (by simp only [go_sem, Nat.reduceBEq, Nat.reduceAdd, Nat.reduceEqDiff, Nat.reduceLeDiff, Nat.reduceLT, Nat.reduceMul]; with_reducible rfl) (by simp) ?_
    refine wpA_seq ?_
    refine wpA_cond rfl (fun hc => ?_) (fun hc => ?_)
    · have hc : j < l.length := by simpa using hc
      have hg := ints_getD l hc
      have e : ((j : Int) - 1).toNat = j - 1 := by omega
      have hg2 := ints_getD l (j := j - 1) (by omega)
      have hl := ints_len l
      refine wpA_skip ?_
      refine tN ?_
      refine wpA_seq ?_
      refine wpA_block ?_
      refine wpA_reg [0, 3, 4, 13, 14, 15] [] rfl (by simp only [go_sem, hg, hg2, e, encI, Nat.reduceBEq, Nat.reduceAdd, Nat.reduceEqDiff, Nat.reduceLeDiff, Nat.reduceLT, Nat.reduceMul]; with_reducible rfl) (by first | trivial | omega | (simp +contextual [inI64, hl, hc] <;> omega)) ?_
      refine wpA_reg [0, 13, 14, 15, 38] [] rfl (by simp only [go_sem, hg, hg2, e, encI, Nat.reduceBEq, Nat.reduceAdd, Nat.reduceEqDiff, Nat.reduceLeDiff, Nat.reduceLT, Nat.reduceMul]; with_reducible rfl) (by first | trivial | omega | (simp +contextual [inI64, hl, hc] <;> omega)) ?_
      refine wpA_cond rfl (fun hd => ?_) (fun hd => ?_)
      · refine wpA_reg [2] [] rfl (by simp only [go_sem, hg, hg2, e, encI, Nat.reduceBEq, Nat.reduceAdd, Nat.reduceEqDiff, Nat.reduceLeDiff, Nat.reduceLT, Nat.reduceMul]; with_reducible rfl) (by first | trivial | omega | (simp +contextual [inI64, hl, hc] <;> omega)) ?_
        refine wpA_ret (bR (tR (tR (bR (tR ?_)))))
        refine endD (.inr rfl) (by simp only [go_sem, Nat.reduceBEq, Nat.reduceAdd, Nat.reduceEqDiff, Nat.reduceLeDiff, Nat.reduceLT, Nat.reduceMul]; with_reducible rfl) ?_
        simp only [go_sem]
        rw [right, all_no hc (by rw [okV, hd]; rfl)]
        rfl
      · refine wpA_skip ?_
        refine bN (tN ?_)
        refine wpA_region [0, 13, 14, 15] [] rfl (by simp only [go_sem, hg, hg2, e, encI, Nat.reduceBEq, Nat.reduceAdd, Nat.reduceEqDiff, Nat.reduceLeDiff, Nat.reduceLT, Nat.reduceMul]; with_reducible rfl) (by first | trivial | omega | (simp +contextual [inI64, hl, hc] <;> omega)) ?_
        refine tN ?_
        refine ⟨j + 1, ⟨hc, ?_⟩, by omega, weak_of (bs := []) [] trivial (by simp) trivial (by simp only [go_sem, Int.natCast_add, Int.natCast_one, Nat.reduceBEq])⟩
        exact all_step hjv (by rw [okV, hd]; rfl)
    · have hc : j = l.length := by simp at hc; omega
      subst hc
      refine wpA_exit (tE (tE (bE ?_)))
      refine tN ?_
      refine wpA_reg [2] [] rfl (by simp only [go_sem, Nat.reduceBEq, Nat.reduceAdd, Nat.reduceEqDiff, Nat.reduceLeDiff, Nat.reduceLT, Nat.reduceMul]; with_reducible rfl) (by simp) ?_
      refine wpA_ret ?_
      refine endD (.inr rfl) (by simp only [go_sem, Nat.reduceBEq, Nat.reduceAdd, Nat.reduceEqDiff, Nat.reduceLeDiff, Nat.reduceLT, Nat.reduceMul]; with_reducible rfl) ?_
      simp only [go_sem]
      have h1 : (decide (1 ≤ (l.length : Int)) && decide ((l.length : Int) ≤ 7)) = true := by simp at hlenb ⊢; omega
      rw [right, hjv, h1]; rfl

end Go.Abs
