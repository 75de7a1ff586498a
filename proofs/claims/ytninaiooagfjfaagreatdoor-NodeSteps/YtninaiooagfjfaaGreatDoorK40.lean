/- Walks: the peers of voters. No conditions. -/
import Derived.Test.YtninaiooagfjfaaGreatDoorK39
set_option linter.unusedVariables false
set_option linter.unusedSimpArgs false
set_option maxRecDepth 20000
namespace Go.Abs
open Go Go.RowKit Go.Proofs

theorem iAt_mem {l : List Int} {j : Nat} (h : j < l.length) : iAt l j ∈ l := by rw [iAt_get h]; exact List.getElem_mem h
theorem sorted_len (l : List Int) : (sorted l).length = l.length := List.length_mergeSort ..
theorem kM_len : ∀ M : List (Int × Peer), (kM M).length ≤ M.length
  | [] => Nat.le_refl _
  | (k, p) :: M => by
    rw [kM]
    have := List.length_filter_le (fun x => !decide (x = k)) (kM M)
    have := kM_len M
    simp; omega
theorem encQ_nil : encQ [] = [] := rfl
theorem cb67 : callB Tryz.prog 67 = true := by kernel_rfl
theorem cb26 : callB Tryz.prog 26 = true := by kernel_rfl
theorem f26_walk (l : List Int) (self next : Int) (old : List Peer) (hl : l.length ≤ 1000) (ho : old.length ≤ 1000) (hi : ∀ x ∈ l, -9223372036854775808 ≤ x ∧ x ≤ 9223372036854775807) (hp : ∀ p ∈ old, -9223372036854775808 ≤ p.id ∧ p.id ≤ 9223372036854775807) : CallsA Tryz.prog 26 [.d (ints l), .d (i64 self), .d (i64 next), .d (peers old)] [] (.d (peers (peersF l self next old))) [] := by
  refine callsW_of (fn := Tryz.f26) [.tmp 8] Tryz.func26 rfl rfl (by show 4 ≤ 70; omega) ?_
  refine wpA_reg [0, 1, 2, 3] [] rfl (by simp only [go_sem, Nat.reduceBEq, Nat.reduceAdd, Nat.reduceEqDiff, Nat.reduceLeDiff, Nat.reduceLT, Nat.reduceMul]; with_reducible rfl) (by first | trivial | omega | (simp +contextual [inI64] <;> omega)) ?_
  refine wpA_reg [0, 1, 2, 3, 9] [] rfl (by simp only [go_sem, Nat.reduceBEq, Nat.reduceAdd, Nat.reduceEqDiff, Nat.reduceLeDiff, Nat.reduceLT, Nat.reduceMul]; with_reducible rfl) (by first | trivial | omega | (simp +contextual [inI64] <;> omega)) ?_
  refine wpA_seq ?_
  refine wpA_reg [1, 2, 3, 9, 20, 21, 22] [] rfl (by simp only [go_sem, Nat.reduceBEq, Nat.reduceAdd, Nat.reduceEqDiff, Nat.reduceLeDiff, Nat.reduceLT, Nat.reduceMul]; with_reducible rfl) (by first | trivial | omega | (simp +contextual [inI64] <;> omega)) ?_
  refine wpA_block ?_
  refine wpA_loop (fun j : Nat => ⟨[(1, .d (i64 self)), (2, .d (i64 next)), (3, .d (peers old)), (9, .own 0), (20, .d (ints l)), (21, .d (i64 l.length)), (22, .d (i64 j))], enum [.inv (MapI Tryz.prog 3 (encQ (mA l self next j)))] 0, 1⟩) (fun j => j ≤ l.length) (fun j => l.length - j) 0 (weak_of [1] trivial (by simp) (by simp only [go_sem, Int.natCast_zero, mA_zero, encQ_nil, Nat.reduceBEq, Nat.reduceAdd, Nat.reduceEqDiff, Nat.reduceLeDiff, Nat.reduceLT, Nat.reduceMul]) (by simp only [go_sem, Int.natCast_zero, mA_zero, encQ_nil, Nat.reduceBEq, Nat.reduceAdd, Nat.reduceEqDiff, Nat.reduceLeDiff, Nat.reduceLT, Nat.reduceMul])) (Nat.zero_le _) (fun j hj => ?_)
  refine wpA_reg [1, 2, 3, 9, 20, 21, 22, 23] [] rfl (by simp only [go_sem, Nat.reduceBEq, Nat.reduceAdd, Nat.reduceEqDiff, Nat.reduceLeDiff, Nat.reduceLT, Nat.reduceMul]; with_reducible rfl) (by first | trivial | omega | (simp +contextual [inI64] <;> omega)) ?_
  refine wpA_seq ?_
  refine wpA_cond rfl (fun hc => ?_) (fun hc => ?_)
  · have hc : j < l.length := by simpa using hc
    have hg := ints_getD l hc
    have e : ((j : Int) - 1).toNat = j - 1 := by omega
    have hg2 := ints_getD l (j := j - 1) (by omega)
    have hl := ints_len l
    refine wpA_skip ?_
    refine tN ?_
    refine wpA_seq ?_
    refine wpA_block ?_
    have hla : (encQ (mA l self next j)).length ≤ 1000000 := by rw [encQ_len]; have := mA_len l self next j; omega
    have hir := hi _ (iAt_mem hc)
    refine wpA_reg [1, 2, 3, 9, 11, 20, 21, 22] [] rfl (by simp only [go_sem, hg, hg2, e, encI, Nat.reduceBEq, Nat.reduceAdd, Nat.reduceEqDiff, Nat.reduceLeDiff, Nat.reduceLT, Nat.reduceMul]; with_reducible rfl) (by first | trivial | omega | (simp +contextual [inI64, hl, hc] <;> omega)) ?_
    refine wpA_reg [1, 2, 3, 9, 11, 20, 21, 22, 28] [] rfl (by simp only [go_sem, hg, hg2, e, encI, Nat.reduceBEq, Nat.reduceAdd, Nat.reduceEqDiff, Nat.reduceLeDiff, Nat.reduceLT, Nat.reduceMul]; with_reducible rfl) (by first | trivial | omega | (simp +contextual [inI64, hl, hc] <;> omega)) ?_
    refine wpA_cond rfl (fun hd => ?_) (fun hd => ?_)
    · have h0 := hd
      refine wpA_region [1, 2, 3, 9, 20, 21, 22] [] rfl (by simp only [go_sem, hg, hg2, e, encI, Nat.reduceBEq, Nat.reduceAdd, Nat.reduceEqDiff, Nat.reduceLeDiff, Nat.reduceLT, Nat.reduceMul]; with_reducible rfl) (by first | trivial | omega | (simp +contextual [inI64, hl, hc] <;> omega)) ?_
      refine bN (tN ?_)
      refine wpA_region [1, 2, 3, 9, 20, 21, 22] [] rfl (by simp only [go_sem, hg, hg2, e, encI, Nat.reduceBEq, Nat.reduceAdd, Nat.reduceEqDiff, Nat.reduceLeDiff, Nat.reduceLT, Nat.reduceMul]; with_reducible rfl) (by first | trivial | omega | (simp +contextual [inI64, hl, hc] <;> omega)) ?_
      refine tN ?_
      refine ⟨j + 1, hc, by omega, weak_of [0] trivial (by simp) (by simp only [go_sem, Int.natCast_add, Int.natCast_one, mA_yes hd, Nat.reduceBEq, Nat.reduceAdd, Nat.reduceEqDiff, Nat.reduceLeDiff, Nat.reduceLT, Nat.reduceMul]) (by simp only [go_sem, Int.natCast_add, Int.natCast_one, mA_yes hd, Nat.reduceBEq, Nat.reduceAdd, Nat.reduceEqDiff, Nat.reduceLeDiff, Nat.reduceLT, Nat.reduceMul])⟩
    · have h0 := hd
      refine wpA_skip ?_
      refine bN (tN ?_)
      refine wpA_region [1, 2, 3, 9, 20, 21, 22] [] rfl (by simp only [go_sem, hg, hg2, e, encI, Nat.reduceBEq, Nat.reduceAdd, Nat.reduceEqDiff, Nat.reduceLeDiff, Nat.reduceLT, Nat.reduceMul]; with_reducible rfl) (by first | trivial | omega | (simp +contextual [inI64, hl, hc] <;> omega)) ?_
      refine tN ?_
      refine ⟨j + 1, hc, by omega, weak_of [0] trivial (by simp) (by simp only [go_sem, Int.natCast_add, Int.natCast_one, mA_no hd, Nat.reduceBEq, Nat.reduceAdd, Nat.reduceEqDiff, Nat.reduceLeDiff, Nat.reduceLT, Nat.reduceMul]) (by simp only [go_sem, Int.natCast_add, Int.natCast_one, mA_no hd, Nat.reduceBEq, Nat.reduceAdd, Nat.reduceEqDiff, Nat.reduceLeDiff, Nat.reduceLT, Nat.reduceMul])⟩
  · have hc : j = l.length := by simp at hc; omega
    subst hc
    refine wpA_exit (tE (tE (bE ?_)))
    refine tN ?_
    refine wpA_seq ?_
    refine wpA_reg [9, 35, 36, 37] [] rfl (by simp only [go_sem, Nat.reduceBEq, Nat.reduceAdd, Nat.reduceEqDiff, Nat.reduceLeDiff, Nat.reduceLT, Nat.reduceMul]; with_reducible rfl) (by first | trivial | omega | (simp +contextual [inI64] <;> omega)) ?_
    refine wpA_block ?_
    refine wpA_loop (fun j : Nat => ⟨[(9, .own 0), (35, .d (peers old)), (36, .d (i64 old.length)), (37, .d (i64 j))], enum [.inv (MapI Tryz.prog 3 (encQ (mB (mA l self next l.length) old j)))] 0, 1⟩) (fun j => j ≤ old.length) (fun j => old.length - j) 0 (weak_of [0] trivial (by simp) (by simp only [go_sem, Int.natCast_zero, mB_zero, Nat.reduceBEq, Nat.reduceAdd, Nat.reduceEqDiff, Nat.reduceLeDiff, Nat.reduceLT, Nat.reduceMul]) (by simp only [go_sem, Int.natCast_zero, mB_zero, Nat.reduceBEq, Nat.reduceAdd, Nat.reduceEqDiff, Nat.reduceLeDiff, Nat.reduceLT, Nat.reduceMul])) (Nat.zero_le _) (fun j hj => ?_)
    refine wpA_reg [9, 35, 36, 37, 38] [] rfl (by simp only [go_sem, Nat.reduceBEq, Nat.reduceAdd, Nat.reduceEqDiff, Nat.reduceLeDiff, Nat.reduceLT, Nat.reduceMul]; with_reducible rfl) (by first | trivial | omega | (simp +contextual [inI64] <;> omega)) ?_
    refine wpA_seq ?_
    refine wpA_cond rfl (fun hc => ?_) (fun hc => ?_)
    · have hc : j < old.length := by simpa using hc
      have hg := peers_getD old hc
      have e : ((j : Int) - 1).toNat = j - 1 := by omega
      have hg2 := peers_getD old (j := j - 1) (by omega)
      have hl := peers_len old
      refine wpA_skip ?_
      refine tN ?_
      refine wpA_seq ?_
      refine wpA_block ?_
      have hlb : (encQ (mB (mA l self next l.length) old j)).length ≤ 1000000 := by rw [encQ_len]; have := mB_len (mA l self next l.length) old j; have := mA_len l self next l.length; omega
      have hpr := hp _ (pAt_mem hc)
      refine wpA_reg [9, 13, 35, 36, 37] [] rfl (by simp only [go_sem, hg, hg2, e, encPeer, getM_D, getM_S, Nat.reduceBEq, Nat.reduceAdd, Nat.reduceEqDiff, Nat.reduceLeDiff, Nat.reduceLT, Nat.reduceMul]; with_reducible rfl) (by first | trivial | omega | (simp +contextual [inI64, hl, hc] <;> omega)) ?_
      refine wpA_reg [9, 13, 15, 35, 36, 37] [] rfl (by simp only [go_sem, hg, hg2, e, encPeer, getM_D, getM_S, Nat.reduceBEq, Nat.reduceAdd, Nat.reduceEqDiff, Nat.reduceLeDiff, Nat.reduceLT, Nat.reduceMul]; with_reducible rfl) (by first | trivial | omega | (simp +contextual [inI64, hl, hc] <;> omega)) ?_
      refine wpA_reg [9, 13, 35, 36, 37, 48] [] rfl (by simp only [go_sem, hg, hg2, e, encPeer, getM_D, getM_S, Nat.reduceBEq, Nat.reduceAdd, Nat.reduceEqDiff, Nat.reduceLeDiff, Nat.reduceLT, Nat.reduceMul]; with_reducible rfl) (by first | trivial | omega | (simp +contextual [inI64, hl, hc] <;> omega)) ?_
      refine wpA_cond rfl (fun hd => ?_) (fun hd => ?_)
      · have h0 := hd
        refine wpA_region [9, 35, 36, 37] [] rfl (by simp only [go_sem, hg, hg2, e, encPeer, getM_D, getM_S, Nat.reduceBEq, Nat.reduceAdd, Nat.reduceEqDiff, Nat.reduceLeDiff, Nat.reduceLT, Nat.reduceMul]; with_reducible rfl) (by first | trivial | omega | (simp +contextual [inI64, hl, hc] <;> omega)) ?_
        refine bN (tN ?_)
        refine wpA_region [9, 35, 36, 37] [] rfl (by simp only [go_sem, hg, hg2, e, encPeer, getM_D, getM_S, Nat.reduceBEq, Nat.reduceAdd, Nat.reduceEqDiff, Nat.reduceLeDiff, Nat.reduceLT, Nat.reduceMul]; with_reducible rfl) (by first | trivial | omega | (simp +contextual [inI64, hl, hc] <;> omega)) ?_
        refine tN ?_
        refine ⟨j + 1, hc, by omega, weak_of [0] trivial (by simp) (by simp only [go_sem, Int.natCast_add, Int.natCast_one, mB_yes hd, Nat.reduceBEq, Nat.reduceAdd, Nat.reduceEqDiff, Nat.reduceLeDiff, Nat.reduceLT, Nat.reduceMul]) (by simp only [go_sem, Int.natCast_add, Int.natCast_one, mB_yes hd, Nat.reduceBEq, Nat.reduceAdd, Nat.reduceEqDiff, Nat.reduceLeDiff, Nat.reduceLT, Nat.reduceMul])⟩
      · have h0 := hd
        refine wpA_skip ?_
        refine bN (tN ?_)
        refine wpA_region [9, 35, 36, 37] [] rfl (by simp only [go_sem, hg, hg2, e, encPeer, getM_D, getM_S, Nat.reduceBEq, Nat.reduceAdd, Nat.reduceEqDiff, Nat.reduceLeDiff, Nat.reduceLT, Nat.reduceMul]; with_reducible rfl) (by first | trivial | omega | (simp +contextual [inI64, hl, hc] <;> omega)) ?_
        refine tN ?_
        refine ⟨j + 1, hc, by omega, weak_of [0] trivial (by simp) (by simp only [go_sem, Int.natCast_add, Int.natCast_one, mB_no hd, Nat.reduceBEq, Nat.reduceAdd, Nat.reduceEqDiff, Nat.reduceLeDiff, Nat.reduceLT, Nat.reduceMul]) (by simp only [go_sem, Int.natCast_add, Int.natCast_one, mB_no hd, Nat.reduceBEq, Nat.reduceAdd, Nat.reduceEqDiff, Nat.reduceLeDiff, Nat.reduceLT, Nat.reduceMul])⟩
    · have hc : j = old.length := by simp at hc; omega
      subst hc
      refine wpA_exit (tE (tE (bE ?_)))
      refine tN ?_
      have hM : mB (mA l self next l.length) old old.length = mF l self next old := rfl
      rw [hM]
      have hML : (encQ (mF l self next old)).length ≤ 1000000 := by rw [encQ_len]; have := mB_len (mA l self next l.length) old old.length; have := mA_len l self next l.length; have := congrArg List.length hM; omega
      have hKL : (keysM (encQ (mF l self next old))).length ≤ 2000 := by rw [keysM_eq, sorted_len]; have := kM_len (mF l self next old); have := mB_len (mA l self next l.length) old old.length; have := mA_len l self next l.length; have := congrArg List.length hM; omega
      refine wpA_reg [9, 16] [] rfl (by simp only [go_sem, Nat.reduceBEq, Nat.reduceAdd, Nat.reduceEqDiff, Nat.reduceLeDiff, Nat.reduceLT, Nat.reduceMul]; with_reducible rfl) (by first | trivial | omega | (simp +contextual [inI64] <;> omega)) ?_
      refine wpA_seq ?_
      refine wpA_reg [9, 16, 56, 57, 58] [useAt [0] (f68_walk (encQ (mF l self next old))) (id rfl) (id rfl) cb68, useAt [0, 4] (f67_walk (encQ (mF l self next old)) hML) (id rfl) (id rfl) cb67] rfl (by simp only [go_sem, Nat.reduceBEq, Nat.reduceAdd, Nat.reduceEqDiff, Nat.reduceLeDiff, Nat.reduceLT, Nat.reduceMul]; with_reducible rfl) (by first | trivial | omega | (simp +contextual [inI64] <;> omega)) ?_
      refine wpA_block ?_
      refine wpA_loop (fun j : Nat => ⟨[(9, .own 0), (16, .own 1), (56, .own 2), (57, .d (i64 ((keysM (encQ (mF l self next old))).length))), (58, .d (i64 j))], enum [.inv (MapI Tryz.prog 3 (encQ (mF l self next old))), .row 70 3 ((((keysM (encQ (mF l self next old))).take j).map (pG (mF l self next old))).map encPeer), .row 3 1 ((keysM (encQ (mF l self next old))).map encI)] 0, 3⟩) (fun j => j ≤ (keysM (encQ (mF l self next old))).length) (fun j => (keysM (encQ (mF l self next old))).length - j) 0 ((weak_own (k := 16) (e := 70) (sz := 3) rfl).trans (weak_of [0, 8, 5] trivial (by simp) (by simp only [go_sem, Int.natCast_zero, List.take_zero, List.map_nil, Nat.reduceBEq, Nat.reduceAdd, Nat.reduceEqDiff, Nat.reduceLeDiff, Nat.reduceLT, Nat.reduceMul]) (by simp only [go_sem, Int.natCast_zero, List.take_zero, List.map_nil, Nat.reduceBEq, Nat.reduceAdd, Nat.reduceEqDiff, Nat.reduceLeDiff, Nat.reduceLT, Nat.reduceMul]))) (Nat.zero_le _) (fun j hj => ?_)
      refine wpA_reg [9, 16, 56, 57, 58, 59] [] rfl (by simp only [go_sem, Nat.reduceBEq, Nat.reduceAdd, Nat.reduceEqDiff, Nat.reduceLeDiff, Nat.reduceLT, Nat.reduceMul]; with_reducible rfl) (by first | trivial | omega | (simp +contextual [inI64] <;> omega)) ?_
      refine wpA_seq ?_
      refine wpA_cond rfl (fun hc => ?_) (fun hc => ?_)
      · have hc : j < (keysM (encQ (mF l self next old))).length := by simpa using hc
        have hg := ints_getD (keysM (encQ (mF l self next old))) hc
        have e : ((j : Int) - 1).toNat = j - 1 := by omega
        have hg2 := ints_getD (keysM (encQ (mF l self next old))) (j := j - 1) (by omega)
        have hl := ints_len (keysM (encQ (mF l self next old)))
        refine wpA_skip ?_
        refine tN ?_
        refine wpA_seq ?_
        refine wpA_block ?_
        have hkr := hi _ (keys_mem (iAt_mem hc)).1
        refine wpA_reg [9, 16, 18, 56, 57, 58] [] rfl (by simp only [go_sem, hg, hg2, e, encI, getM_D, Nat.reduceBEq, Nat.reduceAdd, Nat.reduceEqDiff, Nat.reduceLeDiff, Nat.reduceLT, Nat.reduceMul]; with_reducible rfl) (by first | trivial | omega | (simp +contextual [inI64, hl, hc] <;> omega)) ?_
        refine wpA_region [9, 16, 56, 57, 58] [] rfl (by simp only [go_sem, hg, hg2, e, encI, getM_D, Nat.reduceBEq, Nat.reduceAdd, Nat.reduceEqDiff, Nat.reduceLeDiff, Nat.reduceLT, Nat.reduceMul]; with_reducible rfl) (by first | trivial | omega | (simp +contextual [inI64, hl, hc] <;> omega)) ?_
        refine bN (tN ?_)
        refine wpA_region [9, 16, 56, 57, 58] [] rfl (by simp only [go_sem, hg, hg2, e, encI, getM_D, Nat.reduceBEq, Nat.reduceAdd, Nat.reduceEqDiff, Nat.reduceLeDiff, Nat.reduceLT, Nat.reduceMul]; with_reducible rfl) (by first | trivial | omega | (simp +contextual [inI64, hl, hc] <;> omega)) ?_
        refine tN ?_
        refine ⟨j + 1, hc, by omega, weak_of [0, 12, 2] trivial (by simp) (by simp only [go_sem, Int.natCast_add, Int.natCast_one, peers_nextQ (mF l self next old) hc, Nat.reduceBEq, Nat.reduceAdd, Nat.reduceEqDiff, Nat.reduceLeDiff, Nat.reduceLT, Nat.reduceMul]) (by simp only [go_sem, Int.natCast_add, Int.natCast_one, peers_nextQ (mF l self next old) hc, Nat.reduceBEq, Nat.reduceAdd, Nat.reduceEqDiff, Nat.reduceLeDiff, Nat.reduceLT, Nat.reduceMul])⟩
      · have hc : j = (keysM (encQ (mF l self next old))).length := by simp at hc; omega
        subst hc
        rw [List.take_length]
        refine wpA_exit (tE (tE (bE ?_)))
        refine tN ?_
        refine wpA_reg [8] [] rfl (by simp only [go_sem, Nat.reduceBEq, Nat.reduceAdd, Nat.reduceEqDiff, Nat.reduceLeDiff, Nat.reduceLT, Nat.reduceMul]; with_reducible rfl) (by first | trivial | omega | (simp +contextual [inI64] <;> omega)) ?_
        refine wpA_ret ?_
        refine endD (.inr rfl) (by simp only [go_sem, Nat.reduceBEq, Nat.reduceAdd, Nat.reduceEqDiff, Nat.reduceLeDiff, Nat.reduceLT, Nat.reduceMul]; with_reducible rfl) ?_
        simp only [go_sem, Nat.reduceBEq, Nat.reduceAdd, Nat.reduceEqDiff, Nat.reduceLeDiff, Nat.reduceLT, Nat.reduceMul]
        rfl

end Go.Abs
