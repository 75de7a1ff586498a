/- Walks: which voters are right. No conditions. -/
import Derived.Test.YtninaiooagfjfaaQa
set_option linter.unusedVariables false
set_option linter.unusedSimpArgs false
namespace Go.Abs
open Go Go.RowKit Go.Proofs

def okAt (l : List Int) (j : Nat) : Bool := !(decide (l.getD j 0 < 1) || decide (9 < l.getD j 0) || (decide (0 < (j : Int)) && decide (l.getD j 0 ≤ l.getD (j - 1) 0)))
def right (l : List Int) : Bool := (List.range l.length).all (okAt l) && (decide (1 ≤ (l.length : Int)) && decide ((l.length : Int) ≤ 7))

theorem ints_getD (l : List Int) {j : Nat} (h : j < l.length) : (l.map encI).getD j [] = encI (l.getD j 0) := by simp [List.getD, h]
theorem ints_len (l : List Int) : ∀ row ∈ l.map encI, row.length = 1 := by simp [encI]

theorem right_step {l : List Int} {j : Nat} (h : (List.range j).all (okAt l) = true) (h2 : okAt l j = true) : (List.range (j + 1)).all (okAt l) = true := by
  rw [List.range_succ, List.all_append, h]; simp [h2]
theorem right_no {l : List Int} {j : Nat} (hj : j < l.length) (h : okAt l j = false) : right l = false := by
  have : (List.range l.length).all (okAt l) = false := List.all_eq_false.2 ⟨j, List.mem_range.2 hj, by simp [h]⟩
  rw [right, this]; rfl

theorem f7_walk (l : List Int) : CallsA Try.prog 7 [.d (ints l)] [] (.d (boo (right l))) [] := by
  refine callsA_len (k := 0) rfl fun hlen => ?_
  rw [List.length_map] at hlen
  refine callsA_of (fn := Try.f7) rfl rfl (by show 1 ≤ 40; omega) ?_
  refine wpA_reg [0] [] rfl (by simp only [go_sem, Nat.reduceBEq, Nat.reduceAdd, Nat.reduceEqDiff, Nat.reduceLeDiff, Nat.reduceLT, Nat.reduceMul]; with_reducible rfl) (by simp) ?_
  refine wpA_seq ?_
  refine wpA_reg [0, 5, 6, 7] [] rfl (by simp only [go_sem, Nat.reduceBEq, Nat.reduceAdd, Nat.reduceEqDiff, Nat.reduceLeDiff, Nat.reduceLT, Nat.reduceMul]; with_reducible rfl) (by simp) ?_
  refine wpA_block ?_
  refine wpA_loop (fun j : Nat => ⟨[(0, .d (ints l)), (5, .d (ints l)), (6, .d (i64 l.length)), (7, .d (i64 j))], [], 0⟩) (fun j => j ≤ l.length ∧ (List.range j).all (okAt l) = true) (fun j => l.length - j) 0 (weak_of (bs := []) [] trivial (by simp) trivial (by simp only [go_sem, Nat.reduceBEq])) (by simp) (fun j hj => ?_)
  obtain ⟨hj1, hj2⟩ := hj
  refine wpA_reg [0, 5, 6, 7, 8] [] rfl (by simp only [go_sem, Nat.reduceBEq, Nat.reduceAdd, Nat.reduceEqDiff, Nat.reduceLeDiff, Nat.reduceLT, Nat.reduceMul]; with_reducible rfl) (by simp) ?_
  refine wpA_seq ?_
  refine wpA_cond rfl (fun hc => ?_) (fun hc => ?_)
  · have hc : j < l.length := by simpa using hc
    have hg := ints_getD l hc
    have e : ((j : Int) - 1).toNat = j - 1 := by omega
    have hg2 := ints_getD l (j := j - 1) (by omega)
    have hl := ints_len l
    refine wpA_skip ?_
    refine tN ?_
    refine wpA_seq ?_
    refine wpA_block ?_
    refine wpA_reg [0, 3, 4, 5, 6, 7] [] rfl (by simp only [go_sem, hg, encI, Nat.reduceBEq, Nat.reduceAdd, Nat.reduceEqDiff, Nat.reduceLeDiff, Nat.reduceLT, Nat.reduceMul]; with_reducible rfl) (by exact ⟨by omega, by omega, hl⟩) ?_
    refine wpA_reg [0, 5, 6, 7, 30] [] rfl (by simp only [go_sem, e, hg2, encI, Nat.reduceBEq, Nat.reduceAdd, Nat.reduceEqDiff, Nat.reduceLeDiff, Nat.reduceLT, Nat.reduceMul]; with_reducible rfl) (by simp +contextual [hl, inI64]; omega) ?_
    refine wpA_cond rfl (fun hd => ?_) (fun hd => ?_)
    · refine wpA_reg [2] [] rfl (by simp only [go_sem, Nat.reduceBEq, Nat.reduceAdd, Nat.reduceEqDiff, Nat.reduceLeDiff, Nat.reduceLT, Nat.reduceMul]; with_reducible rfl) (by simp) ?_
      refine wpA_ret (bR (tR (tR (bR (tR ?_)))))
      refine ⟨.inr rfl, _, _, weak_of (fr' := [(2, .d (boo false))]) (bs := []) [] trivial (by simp) trivial (by simp only [go_sem, Nat.reduceBEq]), rfl, ?_⟩
      rw [right_no hc (by rw [okAt, hd]; rfl)]; rfl
    · refine wpA_skip ?_
      refine bN (tN ?_)
      refine wpA_region [0, 5, 6, 7] [] rfl (by simp only [go_sem, Nat.reduceBEq, Nat.reduceAdd, Nat.reduceEqDiff, Nat.reduceLeDiff, Nat.reduceLT, Nat.reduceMul]; with_reducible rfl) (by simp only [inI64]; omega) ?_
      refine tN ?_
      exact ⟨j + 1, ⟨hc, right_step hj2 (by rw [okAt, hd]; rfl)⟩, by omega, weak_of (bs := []) [] trivial (by simp) trivial (by simp only [go_sem, Int.natCast_add, Int.natCast_one, Nat.reduceBEq])⟩
  · have hc : j = l.length := by simp at hc; omega
    subst hc
    refine wpA_exit (tE (tE (bE ?_)))
    refine tN ?_
    refine wpA_reg [2] [] rfl (by simp only [go_sem, Nat.reduceBEq, Nat.reduceAdd, Nat.reduceEqDiff, Nat.reduceLeDiff, Nat.reduceLT, Nat.reduceMul]; with_reducible rfl) (by simp) ?_
    refine wpA_ret ?_
    refine ⟨.inr rfl, _, _, weak_of (fr' := [(2, .d (boo (decide (1 ≤ (l.length : Int)) && decide ((l.length : Int) ≤ 7))))]) (bs := []) [] trivial (by simp) trivial (by simp only [go_sem, Nat.reduceBEq]), rfl, ?_⟩
    rw [right, hj2]; rfl

theorem f9_walk (l : List Int) : CallsA Try.prog 9 [.d (ints l)] [] (.d (boo (right l))) [] := by
  refine callsA_len (k := 0) rfl fun hlen => ?_
  rw [List.length_map] at hlen
  refine callsA_of (fn := Try.f9) rfl rfl (by show 1 ≤ 40; omega) ?_
  refine wpA_reg [0] [] rfl (by simp only [go_sem, Nat.reduceBEq, Nat.reduceAdd, Nat.reduceEqDiff, Nat.reduceLeDiff, Nat.reduceLT, Nat.reduceMul]; with_reducible rfl) (by simp) ?_
  refine wpA_seq ?_
  refine wpA_reg [0, 12] [] rfl (by simp only [go_sem, Nat.reduceBEq, Nat.reduceAdd, Nat.reduceEqDiff, Nat.reduceLeDiff, Nat.reduceLT, Nat.reduceMul]; with_reducible rfl) (by simp) ?_
  refine wpA_cond rfl (fun h0 => ?_) (fun h0 => ?_)
  · refine wpA_reg [2] [] rfl (by simp only [go_sem, Nat.reduceBEq, Nat.reduceAdd, Nat.reduceEqDiff, Nat.reduceLeDiff, Nat.reduceLT, Nat.reduceMul]; with_reducible rfl) (by simp) ?_
    refine wpA_ret (tR ?_)
    refine ⟨.inr rfl, _, _, weak_of (fr' := [(2, .d (boo false))]) (bs := []) [] trivial (by simp) trivial (by simp only [go_sem, Nat.reduceBEq]), rfl, ?_⟩
    have : right l = false := by
      simp only [right, Bool.and_eq_false_imp]; simp at h0 ⊢; omega
    rw [this]; rfl
  · refine wpA_skip ?_
    refine tN ?_
    refine wpA_seq ?_
    refine wpA_reg [0, 13, 14, 15] [] rfl (by simp only [go_sem, Nat.reduceBEq, Nat.reduceAdd, Nat.reduceEqDiff, Nat.reduceLeDiff, Nat.reduceLT, Nat.reduceMul]; with_reducible rfl) (by simp) ?_
    refine wpA_block ?_
    refine wpA_loop (fun j : Nat => ⟨[(0, .d (ints l)), (13, .d (ints l)), (14, .d (i64 l.length)), (15, .d (i64 j))], [], 0⟩) (fun j => j ≤ l.length ∧ (List.range j).all (okAt l) = true) (fun j => l.length - j) 0 (weak_of (bs := []) [] trivial (by simp) trivial (by simp only [go_sem, Nat.reduceBEq])) (by simp) (fun j hj => ?_)
    obtain ⟨hj1, hj2⟩ := hj
    refine wpA_reg [0, 13, 14, 15, 16] [] rfl (by simp only [go_sem, Nat.reduceBEq, Nat.reduceAdd, Nat.reduceEqDiff, Nat.reduceLeDiff, Nat.reduceLT, Nat.reduceMul]; with_reducible rfl) (by simp) ?_
    refine wpA_seq ?_
    refine wpA_cond rfl (fun hc => ?_) (fun hc => ?_)
    · have hc : j < l.length := by simpa using hc
      have hg := ints_getD l hc
      have e : ((j : Int) - 1).toNat = j - 1 := by omega
      have hg2 := ints_getD l (j := j - 1) (by omega)
      have hl := ints_len l
      refine wpA_skip ?_
      refine tN ?_
      refine wpA_seq ?_
      refine wpA_block ?_
      refine wpA_reg [0, 3, 4, 13, 14, 15] [] rfl (by simp only [go_sem, hg, encI, Nat.reduceBEq, Nat.reduceAdd, Nat.reduceEqDiff, Nat.reduceLeDiff, Nat.reduceLT, Nat.reduceMul]; with_reducible rfl) (by exact ⟨by omega, by omega, hl⟩) ?_
      refine wpA_reg [0, 13, 14, 15, 38] [] rfl (by simp only [go_sem, e, hg2, encI, Nat.reduceBEq, Nat.reduceAdd, Nat.reduceEqDiff, Nat.reduceLeDiff, Nat.reduceLT, Nat.reduceMul]; with_reducible rfl) (by simp +contextual [hl, inI64]; omega) ?_
      refine wpA_cond rfl (fun hd => ?_) (fun hd => ?_)
      · refine wpA_reg [2] [] rfl (by simp only [go_sem, Nat.reduceBEq, Nat.reduceAdd, Nat.reduceEqDiff, Nat.reduceLeDiff, Nat.reduceLT, Nat.reduceMul]; with_reducible rfl) (by simp) ?_
        refine wpA_ret (bR (tR (tR (bR (tR ?_)))))
        refine ⟨.inr rfl, _, _, weak_of (fr' := [(2, .d (boo false))]) (bs := []) [] trivial (by simp) trivial (by simp only [go_sem, Nat.reduceBEq]), rfl, ?_⟩
        rw [right_no hc (by rw [okAt, hd]; rfl)]; rfl
      · refine wpA_skip ?_
        refine bN (tN ?_)
        refine wpA_region [0, 13, 14, 15] [] rfl (by simp only [go_sem, Nat.reduceBEq, Nat.reduceAdd, Nat.reduceEqDiff, Nat.reduceLeDiff, Nat.reduceLT, Nat.reduceMul]; with_reducible rfl) (by simp only [inI64]; omega) ?_
        refine tN ?_
        exact ⟨j + 1, ⟨hc, right_step hj2 (by rw [okAt, hd]; rfl)⟩, by omega, weak_of (bs := []) [] trivial (by simp) trivial (by simp only [go_sem, Int.natCast_add, Int.natCast_one, Nat.reduceBEq])⟩
    · have hc : j = l.length := by simp at hc; omega
      subst hc
      refine wpA_exit (tE (tE (bE ?_)))
      refine tN ?_
      refine wpA_reg [2] [] rfl (by simp only [go_sem, Nat.reduceBEq, Nat.reduceAdd, Nat.reduceEqDiff, Nat.reduceLeDiff, Nat.reduceLT, Nat.reduceMul]; with_reducible rfl) (by simp) ?_
      refine wpA_ret ?_
      refine ⟨.inr rfl, _, _, weak_of (fr' := [(2, .d (boo true))]) (bs := []) [] trivial (by simp) trivial (by simp only [go_sem, Nat.reduceBEq]), rfl, ?_⟩
      have h1 : (decide (1 ≤ (l.length : Int)) && decide ((l.length : Int) ≤ 7)) = true := by simp at h0 ⊢; omega
      rw [right, hj2, h1]; rfl
end Go.Abs
