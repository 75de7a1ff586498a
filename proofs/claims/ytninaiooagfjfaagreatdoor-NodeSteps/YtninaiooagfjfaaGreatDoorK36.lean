/- Walks: what is sure; what stands behind a place; a record more. No conditions. -/
import Derived.Test.YtninaiooagfjfaaGreatDoorK35
set_option linter.unusedVariables false
set_option linter.unusedSimpArgs false
set_option maxRecDepth 20000
namespace Go.Abs
open Go Go.RowKit Go.Proofs

theorem cb66 : callB Tryz.prog 66 = true := by kernel_rfl
def sureN (n : Node) : Node := if (((termF n.hard.log (sureQ (votersOf n.hard).1 n.id (lastF n.hard.log).1 n.peers)).2 && decide (n.commit < sureQ (votersOf n.hard).1 n.id (lastF n.hard.log).1 n.peers)) && decide ((termF n.hard.log (sureQ (votersOf n.hard).1 n.id (lastF n.hard.log).1 n.peers)).1 = n.hard.term)) = true then { n with commit := sureQ (votersOf n.hard).1 n.id (lastF n.hard.log).1 n.peers } else n
def sureR (n : Node) : Node := if (decide (n.commit < refSure (votersOf n.hard).1 n.id (lastP n.hard.log) n.peers) && decide (term15 n.hard.log (refSure (votersOf n.hard).1 n.id (lastP n.hard.log) n.peers) = n.hard.term)) = true then { n with commit := refSure (votersOf n.hard).1 n.id (lastP n.hard.log) n.peers } else n
def behindF (l : Lg) (x : Int) : List Rec := if (!(logR l) || decide (x < l.base) || decide (lastP l < x)) = true then [] else (l.recs.drop (x - l.base).toNat).take 20
theorem behind_small {l : Lg} {x : Int} (hl : logR l = true) (h0 : (!(logR l) || decide (x < l.base) || decide (lastP l < x)) = false) : -4000000000 ≤ x - l.base ∧ x - l.base ≤ 4000000000 ∧ 0 ≤ x - l.base ∧ x - l.base ≤ l.recs.length ∧ (x - l.base).toNat ≤ l.recs.length := by
  obtain ⟨a, b, c⟩ := logR_small hl
  have h1 : ¬ x < l.base := fun h => by simp [h] at h0
  have h2 : ¬ lastP l < x := fun h => by simp [h] at h0
  unfold lastP at h2
  omega
def behT (l : List Rec) (m j : Nat) : List Rec := ((l.take j).drop m).take 20
def behindR (l : Lg) (x : Int) : List Rec := if x < l.base then [] else behT l.recs (x - l.base).toNat l.recs.length
theorem behT_zero (l : List Rec) (m : Nat) : behT l m 0 = [] := by simp [behT]
theorem behT_len (l : List Rec) (m j : Nat) : (behT l m j).length ≤ 20 := by simp [behT]; omega
theorem behT_no {l : List Rec} {m j : Nat} (hc : j < l.length) (h : m ≤ j → 20 ≤ (behT l m j).length) : behT l m (j + 1) = behT l m j := by
  unfold behT at *
  rw [List.take_succ_eq_append_getElem hc]
  by_cases hm : m ≤ j
  · rw [List.drop_append_of_le_length (by rw [List.length_take]; omega)]
    have := h hm
    rw [List.take_append_of_le_length (by rw [List.length_take] at this; omega)]
  · rw [List.drop_eq_nil_of_le (by simp; omega), List.drop_eq_nil_of_le (by simp; omega)]
theorem behT_yes {l : List Rec} {m j : Nat} (hc : j < l.length) (h : m ≤ j ∧ (behT l m j).length < 20) : behT l m (j + 1) = behT l m j ++ [rAt l j] := by
  unfold behT at *
  obtain ⟨hm, hl⟩ := h
  rw [List.take_succ_eq_append_getElem hc, List.drop_append_of_le_length (by rw [List.length_take]; omega), rAt_get hc]
  rw [List.length_take] at hl
  rw [List.take_of_length_le (l := (l.take j).drop m ++ [l[j]]) (by rw [List.length_append, List.length_singleton]; omega), List.take_of_length_le (l := (l.take j).drop m) (by omega)]
def recL (r : Rec) : List V := [.d (i64 r.term), .d (i64 r.kind), .d (str r.data)]
attribute [go_sem] recL
def addR (n : Node) (r : Rec) : Node := { n with hard := { n.hard with log := { n.hard.log with recs := n.hard.log.recs ++ [r] } } }
theorem recs_next {l : List Rec} {j : Nat} (h : j < l.length) : (l.take (j + 1)).map encRec = (l.take j).map encRec ++ [[.lit (.int .i64 (rAt l j).term), .lit (.int .i64 (rAt l j).kind), .lit (.string (rAt l j).data)]] := by
  rw [List.take_succ_eq_append_getElem h, List.map_append, rAt_get h]; rfl
theorem cb28 : callB Tryz.prog 28 = true := by kernel_rfl
theorem f28_walk (n : Node) (hs : shaped n.hard = true) : CallsA Tryz.prog 28 [.agg (nodeV n)] [] (.agg (nodeV (sureN n))) [] := by
  refine callsW_of (fn := Tryz.f28) [.cell 2 30] Tryz.func28 rfl rfl (by show 1 ≤ 47; omega) ?_
  refine wpA_reg [1, 2] [] rfl (by simp only [go_sem, Nat.reduceBEq, Nat.reduceAdd, Nat.reduceEqDiff, Nat.reduceLeDiff, Nat.reduceLT, Nat.reduceMul]; with_reducible rfl) (by first | trivial | omega | (simp +contextual [inI64] <;> omega)) ?_
  refine wpA_reg [1, 2, 3] [usePure (f21_walk n.hard hs) rfl cb21] rfl (by simp only [go_sem, Nat.reduceBEq, Nat.reduceAdd, Nat.reduceEqDiff, Nat.reduceLeDiff, Nat.reduceLT, Nat.reduceMul]; with_reducible rfl) (by first | trivial | omega | (simp +contextual [inI64] <;> omega)) ?_
  refine wpA_regD [[3], [1], [15], [1], [17], [1], [19], [14, 16, 18, 20], [21]] [1, 2, 5] [usePure (f27_walk n) rfl cb27, usePure (f69_walk (votersOf n.hard).1 n.id (lastF n.hard.log).1 n.peers) rfl cb69] mx rfl (by simp only [go_sem, Nat.reduceBEq, Nat.reduceAdd, Nat.reduceEqDiff, Nat.reduceLeDiff, Nat.reduceLT, Nat.reduceMul]; with_reducible rfl) (by kernel_rfl) (by first | trivial | omega | (simp +contextual [inI64] <;> omega)) ?_
  refine wpA_seq ?_
  refine wpA_reg [1, 2, 5, 6, 7] [usePure (f22_walk n.hard.log (sureQ (votersOf n.hard).1 n.id (lastF n.hard.log).1 n.peers)) rfl cb22] rfl (by simp only [go_sem, Nat.reduceBEq, Nat.reduceAdd, Nat.reduceEqDiff, Nat.reduceLeDiff, Nat.reduceLT, Nat.reduceMul]; with_reducible rfl) (by first | trivial | omega | (simp +contextual [inI64] <;> omega)) ?_
  refine wpA_reg [1, 2, 5, 43] [] rfl (by simp only [go_sem, Nat.reduceBEq, Nat.reduceAdd, Nat.reduceEqDiff, Nat.reduceLeDiff, Nat.reduceLT, Nat.reduceMul]; with_reducible rfl) (by first | trivial | omega | (simp +contextual [inI64] <;> omega)) ?_
  refine wpA_cond rfl (fun hd => ?_) (fun hd => ?_)
  · have h0 := hd
    refine wpA_region [1, 2] [] rfl (by simp only [go_sem, Nat.reduceBEq, Nat.reduceAdd, Nat.reduceEqDiff, Nat.reduceLeDiff, Nat.reduceLT, Nat.reduceMul]; with_reducible rfl) (by first | trivial | omega | (simp +contextual [inI64] <;> omega)) ?_
    refine tN ?_
    refine wpA_reg [2] [] rfl (by simp only [go_sem, Nat.reduceBEq, Nat.reduceAdd, Nat.reduceEqDiff, Nat.reduceLeDiff, Nat.reduceLT, Nat.reduceMul]; with_reducible rfl) (by first | trivial | omega | (simp +contextual [inI64] <;> omega)) ?_
    refine wpA_ret ?_
    refine endD (.inr rfl) (by simp only [go_sem, Nat.reduceBEq, Nat.reduceAdd, Nat.reduceEqDiff, Nat.reduceLeDiff, Nat.reduceLT, Nat.reduceMul]; with_reducible rfl) ?_
    simp only [go_sem, Nat.reduceBEq, Nat.reduceAdd, Nat.reduceEqDiff, Nat.reduceLeDiff, Nat.reduceLT, Nat.reduceMul]
    rw [sureN, if_pos h0] <;> rfl
  · have h0 := hd
    refine wpA_skip ?_
    refine tN ?_
    refine wpA_reg [2] [] rfl (by simp only [go_sem, Nat.reduceBEq, Nat.reduceAdd, Nat.reduceEqDiff, Nat.reduceLeDiff, Nat.reduceLT, Nat.reduceMul]; with_reducible rfl) (by first | trivial | omega | (simp +contextual [inI64] <;> omega)) ?_
    refine wpA_ret ?_
    refine endD (.inr rfl) (by simp only [go_sem, Nat.reduceBEq, Nat.reduceAdd, Nat.reduceEqDiff, Nat.reduceLeDiff, Nat.reduceLT, Nat.reduceMul]; with_reducible rfl) ?_
    simp only [go_sem, Nat.reduceBEq, Nat.reduceAdd, Nat.reduceEqDiff, Nat.reduceLeDiff, Nat.reduceLT, Nat.reduceMul]
    rw [sureN, if_neg (by rw [h0]; simp)] <;> rfl

theorem cb46 : callB Tryz.prog 46 = true := by kernel_rfl
theorem f46_walk (n : Node) (hs : shaped n.hard = true) (hps : n.peers.length ≤ 60) : CallsA Tryz.prog 46 [.agg (nodeV n)] [] (.agg (nodeV (sureR n))) [] := by
  refine callsW_of (fn := Tryz.f46) [.cell 2 30] Tryz.func46 rfl rfl (by show 1 ≤ 31; omega) ?_
  refine wpA_reg [1, 2] [] rfl (by simp only [go_sem, Nat.reduceBEq, Nat.reduceAdd, Nat.reduceEqDiff, Nat.reduceLeDiff, Nat.reduceLT, Nat.reduceMul]; with_reducible rfl) (by first | trivial | omega | (simp +contextual [inI64] <;> omega)) ?_
  refine wpA_regD [[1], [4], [1], [6], [1], [8], [1], [10], [5, 7, 9, 11], [12]] [1, 2, 3] [usePure (f73_walk n hs) rfl cb73, usePure (f45_walk n (logR_small (shaped_log hs))) rfl cb45, usePure (f72_walk (votersOf n.hard).1 n.id (lastP n.hard.log) n.peers hps) rfl cb72] mx rfl (by simp only [go_sem, Nat.reduceBEq, Nat.reduceAdd, Nat.reduceEqDiff, Nat.reduceLeDiff, Nat.reduceLT, Nat.reduceMul]; with_reducible rfl) (by kernel_rfl) (by first | trivial | omega | (simp +contextual [inI64] <;> omega)) ?_
  refine wpA_seq ?_
  refine wpA_regD [[3], [1], [14], [13, 15], [16], [1, 17], [17, 18], [17, 19], [3, 17], [17, 20, 21], [1, 17], [17, 23], [17, 24], [17, 22, 25], [17, 26]] [1, 2, 3, 27] [usePure (f42_walk n.hard.log (refSure (votersOf n.hard).1 n.id (lastP n.hard.log) n.peers) (logR_small (shaped_log hs))) rfl cb42] mx rfl (by simp only [go_sem, Nat.reduceBEq, Nat.reduceAdd, Nat.reduceEqDiff, Nat.reduceLeDiff, Nat.reduceLT, Nat.reduceMul]; with_reducible rfl) (by kernel_rfl) (by first | trivial | omega | (simp +contextual [inI64] <;> omega)) ?_
  refine wpA_cond rfl (fun hd => ?_) (fun hd => ?_)
  · have h0 := hd
    refine wpA_region [1, 2] [] rfl (by simp only [go_sem, Nat.reduceBEq, Nat.reduceAdd, Nat.reduceEqDiff, Nat.reduceLeDiff, Nat.reduceLT, Nat.reduceMul]; with_reducible rfl) (by first | trivial | omega | (simp +contextual [inI64] <;> omega)) ?_
    refine tN ?_
    refine wpA_reg [2] [] rfl (by simp only [go_sem, Nat.reduceBEq, Nat.reduceAdd, Nat.reduceEqDiff, Nat.reduceLeDiff, Nat.reduceLT, Nat.reduceMul]; with_reducible rfl) (by first | trivial | omega | (simp +contextual [inI64] <;> omega)) ?_
    refine wpA_ret ?_
    refine endD (.inr rfl) (by simp only [go_sem, Nat.reduceBEq, Nat.reduceAdd, Nat.reduceEqDiff, Nat.reduceLeDiff, Nat.reduceLT, Nat.reduceMul]; with_reducible rfl) ?_
    simp only [go_sem, Nat.reduceBEq, Nat.reduceAdd, Nat.reduceEqDiff, Nat.reduceLeDiff, Nat.reduceLT, Nat.reduceMul]
    rw [sureR, if_pos h0] <;> rfl
  · have h0 := hd
    refine wpA_skip ?_
    refine tN ?_
    refine wpA_reg [2] [] rfl (by simp only [go_sem, Nat.reduceBEq, Nat.reduceAdd, Nat.reduceEqDiff, Nat.reduceLeDiff, Nat.reduceLT, Nat.reduceMul]; with_reducible rfl) (by first | trivial | omega | (simp +contextual [inI64] <;> omega)) ?_
    refine wpA_ret ?_
    refine endD (.inr rfl) (by simp only [go_sem, Nat.reduceBEq, Nat.reduceAdd, Nat.reduceEqDiff, Nat.reduceLeDiff, Nat.reduceLT, Nat.reduceMul]; with_reducible rfl) ?_
    simp only [go_sem, Nat.reduceBEq, Nat.reduceAdd, Nat.reduceEqDiff, Nat.reduceLeDiff, Nat.reduceLT, Nat.reduceMul]
    rw [sureR, if_neg (by rw [h0]; simp)] <;> rfl

theorem cb90 : callB Tryz.prog 90 = true := by kernel_rfl
theorem f90_walk (l : Lg) (x : Int) (hl : logR l = true) : CallsA Tryz.prog 90 [.agg (logV l), .d (i64 x), .d (i64 20)] [] (.d (recs (behindF l x))) [] := by
  refine callsW_of (fn := Tryz.f90) [.tmp 6] Tryz.func90 rfl rfl (by show 3 ≤ 44; omega) ?_
  refine wpA_reg [1, 2, 3] [] rfl (by simp only [go_sem, Nat.reduceBEq, Nat.reduceAdd, Nat.reduceEqDiff, Nat.reduceLeDiff, Nat.reduceLT, Nat.reduceMul]; with_reducible rfl) (by first | trivial | omega | (simp +contextual [inI64] <;> omega)) ?_
  refine wpA_reg [1, 2, 3, 7] [] rfl (by simp only [go_sem, Nat.reduceBEq, Nat.reduceAdd, Nat.reduceEqDiff, Nat.reduceLeDiff, Nat.reduceLT, Nat.reduceMul]; with_reducible rfl) (by first | trivial | omega | (simp +contextual [inI64] <;> omega)) ?_
  refine wpA_seq ?_
  refine wpA_reg [1, 2, 7, 26] [usePure (f61_walk l) rfl cb61, usePure (f83_walk l (logR_small hl)) rfl cb83] rfl (by simp only [go_sem, Nat.reduceBEq, Nat.reduceAdd, Nat.reduceEqDiff, Nat.reduceLeDiff, Nat.reduceLT, Nat.reduceMul]; with_reducible rfl) (by first | trivial | omega | (simp +contextual [inI64] <;> omega)) ?_
  refine wpA_cond rfl (fun hd => ?_) (fun hd => ?_)
  · have h0 := hd
    refine wpA_reg [6] [] rfl (by simp only [go_sem, Nat.reduceBEq, Nat.reduceAdd, Nat.reduceEqDiff, Nat.reduceLeDiff, Nat.reduceLT, Nat.reduceMul]; with_reducible rfl) (by first | trivial | omega | (simp +contextual [inI64] <;> omega)) ?_
    refine wpA_ret (tR ?_)
    refine endL (l := [.d (recs [])]) [] (.inr rfl) (by simp only [go_sem, Nat.reduceBEq, Nat.reduceAdd, Nat.reduceEqDiff, Nat.reduceLeDiff, Nat.reduceLT, Nat.reduceMul]; with_reducible rfl) trivial (by simp) trivial (by simp [snapL, snap, leL, le, leD, recs]) ?_
    simp [behindF, h0] <;> rfl
  · have h0 := hd
    have hk := behind_small hl h0
    have hT : (l.recs.map encRec).take l.recs.length = l.recs.map encRec := List.take_of_length_le (by simp)
    have hD : (l.recs.map encRec).drop (x - l.base).toNat = (l.recs.drop (x - l.base).toNat).map encRec := (List.map_drop).symm
    have hM : (min (max 20 0) (((l.recs.drop (x - l.base).toNat).length : Nat) : Int)).toNat = min 20 (l.recs.drop (x - l.base).toNat).length := by omega
    have hT2 : ((l.recs.drop (x - l.base).toNat).map encRec).take (min 20 (l.recs.drop (x - l.base).toNat).length) = ((l.recs.drop (x - l.base).toNat).take 20).map encRec := by rw [← List.map_take]; congr 1; rw [← List.take_take, List.take_length]
    have hll := recs_len l.recs
    have hl2 := recs_len (l.recs.drop (x - l.base).toNat)
    refine wpA_skip ?_
    refine tN ?_
    refine wpA_reg [2, 8] [] rfl (by simp only [go_sem, hT, hD, hM, hT2, Int.toNat_zero, List.drop_zero, Nat.reduceBEq, Nat.reduceAdd, Nat.reduceEqDiff, Nat.reduceLeDiff, Nat.reduceLT, Nat.reduceMul]; with_reducible rfl) (by first | trivial | omega | (simp +contextual [inI64, hk, hll, hl2] <;> omega)) ?_
    refine wpA_reg [6] [useAt [] (f66_walk ((l.recs.drop (x - l.base).toNat).take 20) (by rw [List.length_take]; omega)) (id rfl) (id rfl) cb66] rfl (by simp only [go_sem, hT, hD, hM, hT2, Int.toNat_zero, List.drop_zero, Nat.reduceBEq, Nat.reduceAdd, Nat.reduceEqDiff, Nat.reduceLeDiff, Nat.reduceLT, Nat.reduceMul]; with_reducible rfl) (by first | trivial | omega | (simp +contextual [inI64, hk, hll, hl2] <;> omega)) ?_
    refine wpA_ret ?_
    refine endD (.inr rfl) (by simp only [go_sem, hT, hD, hM, hT2, Int.toNat_zero, List.drop_zero, Nat.reduceBEq, Nat.reduceAdd, Nat.reduceEqDiff, Nat.reduceLeDiff, Nat.reduceLT, Nat.reduceMul]; with_reducible rfl) ?_
    simp only [go_sem, Nat.reduceBEq, Nat.reduceAdd, Nat.reduceEqDiff, Nat.reduceLeDiff, Nat.reduceLT, Nat.reduceMul]
    simp [behindF, h0]

theorem cb98 : callB Tryz.prog 98 = true := by kernel_rfl
theorem f98_walk (l : Lg) (x : Int) (hS : SmallL l) (hx : -4000000000 ≤ x ∧ x ≤ 4000000000) : CallsA Tryz.prog 98 [.agg (logV l), .d (i64 x), .d (i64 20)] [] (.d (recs (behindR l x))) [] := by
  obtain ⟨hS1, hS2, hS3⟩ := hS
  refine callsW_of (fn := Tryz.f98) [.tmp 6] Tryz.func98 rfl rfl (by show 3 ≤ 43; omega) ?_
  refine wpA_reg [1, 2, 3] [] rfl (by simp only [go_sem, Nat.reduceBEq, Nat.reduceAdd, Nat.reduceEqDiff, Nat.reduceLeDiff, Nat.reduceLT, Nat.reduceMul]; with_reducible rfl) (by first | trivial | omega | (simp +contextual [inI64] <;> omega)) ?_
  refine wpA_reg [1, 2, 3, 7] [] rfl (by simp only [go_sem, Nat.reduceBEq, Nat.reduceAdd, Nat.reduceEqDiff, Nat.reduceLeDiff, Nat.reduceLT, Nat.reduceMul]; with_reducible rfl) (by first | trivial | omega | (simp +contextual [inI64] <;> omega)) ?_
  refine wpA_seq ?_
  refine wpA_reg [1, 2, 3, 7, 14] [] rfl (by simp only [go_sem, Nat.reduceBEq, Nat.reduceAdd, Nat.reduceEqDiff, Nat.reduceLeDiff, Nat.reduceLT, Nat.reduceMul]; with_reducible rfl) (by first | trivial | omega | (simp +contextual [inI64] <;> omega)) ?_
  refine wpA_cond rfl (fun hd => ?_) (fun hd => ?_)
  · have h0 := hd
    refine wpA_reg [6] [] rfl (by simp only [go_sem, Nat.reduceBEq, Nat.reduceAdd, Nat.reduceEqDiff, Nat.reduceLeDiff, Nat.reduceLT, Nat.reduceMul]; with_reducible rfl) (by first | trivial | omega | (simp +contextual [inI64] <;> omega)) ?_
    refine wpA_ret (tR ?_)
    refine endD (.inr rfl) (by simp only [go_sem, Nat.reduceBEq, Nat.reduceAdd, Nat.reduceEqDiff, Nat.reduceLeDiff, Nat.reduceLT, Nat.reduceMul]; with_reducible rfl) ?_
    simp only [go_sem, Nat.reduceBEq, Nat.reduceAdd, Nat.reduceEqDiff, Nat.reduceLeDiff, Nat.reduceLT, Nat.reduceMul]
    rw [behindR, if_pos (of_decide_eq_true hd)] <;> rfl
  · have h0 := hd
    refine wpA_skip ?_
    refine tN ?_
    refine wpA_seq ?_
    refine wpA_reg [1, 2, 3, 7, 17, 18, 19] [] rfl (by simp only [go_sem, Nat.reduceBEq, Nat.reduceAdd, Nat.reduceEqDiff, Nat.reduceLeDiff, Nat.reduceLT, Nat.reduceMul]; with_reducible rfl) (by first | trivial | omega | (simp +contextual [inI64] <;> omega)) ?_
    refine wpA_block ?_
    refine wpA_loop (fun j : Nat => ⟨[(1, .d (i64 x)), (2, .d (i64 20)), (3, .ptr 0 0), (7, .own 1), (17, .d (recs l.recs)), (18, .d (i64 l.recs.length)), (19, .d (i64 j))], enum [.var 24 (logV l), .row 49 3 ((behT l.recs (x - l.base).toNat j).map encRec)] 0, 2⟩) (fun j => j ≤ l.recs.length) (fun j => l.recs.length - j) 0 (weak_of [0, 2] trivial (by simp) (by simp only [go_sem, Int.natCast_zero, behT_zero, List.map_nil, Nat.reduceBEq, Nat.reduceAdd, Nat.reduceEqDiff, Nat.reduceLeDiff, Nat.reduceLT, Nat.reduceMul]) (by simp only [go_sem, Int.natCast_zero, behT_zero, List.map_nil, Nat.reduceBEq, Nat.reduceAdd, Nat.reduceEqDiff, Nat.reduceLeDiff, Nat.reduceLT, Nat.reduceMul])) (Nat.zero_le _) (fun j hj => ?_)
    refine wpA_reg [1, 2, 3, 7, 17, 18, 19, 20] [] rfl (by simp only [go_sem, Nat.reduceBEq, Nat.reduceAdd, Nat.reduceEqDiff, Nat.reduceLeDiff, Nat.reduceLT, Nat.reduceMul]; with_reducible rfl) (by first | trivial | omega | (simp +contextual [inI64] <;> omega)) ?_
    refine wpA_seq ?_
    refine wpA_cond rfl (fun hc => ?_) (fun hc => ?_)
    · have hc : j < l.recs.length := by simpa using hc
      have hg := recs_getD l.recs hc
      have e : ((j : Int) - 1).toNat = j - 1 := by omega
      have hg2 := recs_getD l.recs (j := j - 1) (by omega)
      have hl := recs_len l.recs
      have hbl := behT_len l.recs (x - l.base).toNat j
      refine wpA_skip ?_
      refine tN ?_
      refine wpA_seq ?_
      refine wpA_block ?_
      refine wpA_reg [1, 2, 3, 7, 8, 9, 17, 18, 19] [] rfl (by simp only [go_sem, hg, hg2, e, encRec, Nat.reduceBEq, Nat.reduceAdd, Nat.reduceEqDiff, Nat.reduceLeDiff, Nat.reduceLT, Nat.reduceMul]; with_reducible rfl) (by first | trivial | omega | (simp +contextual [inI64, hl, hc] <;> omega)) ?_
      refine wpA_reg [1, 2, 3, 7, 9, 17, 18, 19, 36] [] rfl (by simp only [go_sem, hg, hg2, e, encRec, Nat.reduceBEq, Nat.reduceAdd, Nat.reduceEqDiff, Nat.reduceLeDiff, Nat.reduceLT, Nat.reduceMul]; with_reducible rfl) (by first | trivial | omega | (simp +contextual [inI64, hl, hc] <;> omega)) ?_
      refine wpA_cond rfl (fun hd => ?_) (fun hd => ?_)
      · have h1 := hd
        have hn := behT_yes (m := (x - l.base).toNat) hc (by have hq := hd; simp at hq; have h9 := of_decide_eq_false h0; omega)
        refine wpA_region [1, 2, 3, 7, 17, 18, 19] [] rfl (by simp only [go_sem, hg, hg2, e, encRec, Nat.reduceBEq, Nat.reduceAdd, Nat.reduceEqDiff, Nat.reduceLeDiff, Nat.reduceLT, Nat.reduceMul]; with_reducible rfl) (by first | trivial | omega | (simp +contextual [inI64, hl, hc] <;> omega)) ?_
        refine bN (tN ?_)
        refine wpA_region [1, 2, 3, 7, 17, 18, 19] [] rfl (by simp only [go_sem, hg, hg2, e, encRec, Nat.reduceBEq, Nat.reduceAdd, Nat.reduceEqDiff, Nat.reduceLeDiff, Nat.reduceLT, Nat.reduceMul]; with_reducible rfl) (by first | trivial | omega | (simp +contextual [inI64, hl, hc] <;> omega)) ?_
        refine tN ?_
        refine ⟨j + 1, hc, by omega, weak_of [0, 25] trivial (by simp) (by simp only [go_sem, Int.natCast_add, Int.natCast_one, hn, List.map_append, List.map_cons, List.map_nil, encRec, Nat.reduceBEq, Nat.reduceAdd, Nat.reduceEqDiff, Nat.reduceLeDiff, Nat.reduceLT, Nat.reduceMul]) (by simp only [go_sem, Int.natCast_add, Int.natCast_one, hn, List.map_append, List.map_cons, List.map_nil, encRec, Nat.reduceBEq, Nat.reduceAdd, Nat.reduceEqDiff, Nat.reduceLeDiff, Nat.reduceLT, Nat.reduceMul])⟩
      · have h1 := hd
        have hn := behT_no (m := (x - l.base).toNat) hc (by have hq := hd; simp at hq; have h9 := of_decide_eq_false h0; intro h8; have := hq (by omega); omega)
        refine wpA_skip ?_
        refine bN (tN ?_)
        refine wpA_region [1, 2, 3, 7, 17, 18, 19] [] rfl (by simp only [go_sem, hg, hg2, e, encRec, Nat.reduceBEq, Nat.reduceAdd, Nat.reduceEqDiff, Nat.reduceLeDiff, Nat.reduceLT, Nat.reduceMul]; with_reducible rfl) (by first | trivial | omega | (simp +contextual [inI64, hl, hc] <;> omega)) ?_
        refine tN ?_
        refine ⟨j + 1, hc, by omega, weak_of [0, 1] trivial (by simp) (by simp only [go_sem, Int.natCast_add, Int.natCast_one, hn, List.map_append, List.map_cons, List.map_nil, encRec, Nat.reduceBEq, Nat.reduceAdd, Nat.reduceEqDiff, Nat.reduceLeDiff, Nat.reduceLT, Nat.reduceMul]) (by simp only [go_sem, Int.natCast_add, Int.natCast_one, hn, List.map_append, List.map_cons, List.map_nil, encRec, Nat.reduceBEq, Nat.reduceAdd, Nat.reduceEqDiff, Nat.reduceLeDiff, Nat.reduceLT, Nat.reduceMul])⟩
    · have hc : j = l.recs.length := by simp at hc; omega
      subst hc
      refine wpA_exit (tE (tE (bE ?_)))
      refine tN ?_
      refine wpA_reg [6] [] rfl (by simp only [go_sem, Nat.reduceBEq, Nat.reduceAdd, Nat.reduceEqDiff, Nat.reduceLeDiff, Nat.reduceLT, Nat.reduceMul]; with_reducible rfl) (by first | trivial | omega | (simp +contextual [inI64] <;> omega)) ?_
      refine wpA_ret ?_
      refine endD (.inr rfl) (by simp only [go_sem, Nat.reduceBEq, Nat.reduceAdd, Nat.reduceEqDiff, Nat.reduceLeDiff, Nat.reduceLT, Nat.reduceMul]; with_reducible rfl) ?_
      simp only [go_sem, Nat.reduceBEq, Nat.reduceAdd, Nat.reduceEqDiff, Nat.reduceLeDiff, Nat.reduceLT, Nat.reduceMul]
      rw [behindR, if_neg (of_decide_eq_false h0)] <;> rfl

theorem cb25 : callB Tryz.prog 25 = true := by kernel_rfl
theorem f25_walk (n : Node) (r : Rec) (hs : n.hard.log.recs.length ≤ 200) : CallsA Tryz.prog 25 [.agg (nodeV n), .agg (recL r)] [] (.tup [.agg (nodeV (addR n r)), .d (boo (walR (addR n r).hard))]) [] := by
  refine callsW_of (fn := Tryz.f25) [.cell 4 30, .tmp 5] Tryz.func25 rfl rfl (by show 2 ≤ 21; omega) ?_
  refine wpA_reg [2, 3, 4] [] rfl (by simp only [go_sem, Nat.reduceBEq, Nat.reduceAdd, Nat.reduceEqDiff, Nat.reduceLeDiff, Nat.reduceLT, Nat.reduceMul]; with_reducible rfl) (by first | trivial | omega | (simp +contextual [inI64, encRec] <;> omega)) ?_
  refine wpA_regD [[2], [6], [7], [8], [9], [3], [11], [10, 12], [2], [14], [15], [13, 16]] [2, 4] [useAt [] (f66_walk n.hard.log.recs (by omega)) (id rfl) (id rfl) cb66] mx rfl (by simp only [go_sem, Nat.reduceBEq, Nat.reduceAdd, Nat.reduceEqDiff, Nat.reduceLeDiff, Nat.reduceLT, Nat.reduceMul]; with_reducible rfl) (by kernel_rfl) (by first | trivial | omega | (simp +contextual [inI64, encRec] <;> omega)) ?_
  refine wpA_regD [[2], [2], [18], [19], [4, 17], [20]] [4, 5] [usePure (f55_walk (addR n r).hard) rfl cb55] mx rfl (by simp only [go_sem, Nat.reduceBEq, Nat.reduceAdd, Nat.reduceEqDiff, Nat.reduceLeDiff, Nat.reduceLT, Nat.reduceMul]; with_reducible rfl) (by kernel_rfl) (by first | trivial | omega | (simp +contextual [inI64, addR, List.map_append, encRec, i64, str] <;> omega)) ?_
  refine wpA_ret ?_
  refine endD (.inr rfl) (by simp only [go_sem, Nat.reduceBEq, Nat.reduceAdd, Nat.reduceEqDiff, Nat.reduceLeDiff, Nat.reduceLT, Nat.reduceMul]; with_reducible rfl) ?_
  simp only [go_sem, addR, List.map_append, encRec, List.map_cons, List.map_nil, Nat.reduceBEq, Nat.reduceAdd, Nat.reduceEqDiff, Nat.reduceLeDiff, Nat.reduceLT, Nat.reduceMul]

theorem cb43 : callB Tryz.prog 43 = true := by kernel_rfl
theorem f43_walk (n : Node) (r : Rec) (hs : n.hard.log.recs.length ≤ 200) : CallsA Tryz.prog 43 [.agg (nodeV n), .agg (recL r)] [] (.tup [.agg (nodeV (addR n r)), .d (boo (walR (addR n r).hard))]) [] := by
  refine callsW_of (fn := Tryz.f43) [.cell 4 30, .tmp 5] Tryz.func43 rfl rfl (by show 2 ≤ 36; omega) ?_
  refine wpA_reg [2, 3, 4] [] rfl (by simp only [go_sem, Nat.reduceBEq, Nat.reduceAdd, Nat.reduceEqDiff, Nat.reduceLeDiff, Nat.reduceLT, Nat.reduceMul]; with_reducible rfl) (by first | trivial | omega | (simp +contextual [inI64, encRec] <;> omega)) ?_
  refine wpA_reg [2, 3, 4, 6] [] rfl (by simp only [go_sem, Nat.reduceBEq, Nat.reduceAdd, Nat.reduceEqDiff, Nat.reduceLeDiff, Nat.reduceLT, Nat.reduceMul]; with_reducible rfl) (by first | trivial | omega | (simp +contextual [inI64, encRec] <;> omega)) ?_
  refine wpA_seq ?_
  refine wpA_reg [2, 3, 4, 6, 13, 14, 15] [] rfl (by simp only [go_sem, Nat.reduceBEq, Nat.reduceAdd, Nat.reduceEqDiff, Nat.reduceLeDiff, Nat.reduceLT, Nat.reduceMul]; with_reducible rfl) (by first | trivial | omega | (simp +contextual [inI64, encRec] <;> omega)) ?_
  refine wpA_block ?_
  refine wpA_loop (fun j : Nat => ⟨[(2, .ptr 0 0), (3, .ptr 1 0), (4, .ptr 2 0), (6, .own 3), (13, .d (recs n.hard.log.recs)), (14, .d (i64 n.hard.log.recs.length)), (15, .d (i64 j))], enum [.var 30 (nodeV n), .var 49 (recL r), .var 30 [.d (i64 0), .d (i64 0), .d (i64 0), .d (i64 0), .d (i64 0), .d (.lit (.slice none 0 0)), .d (.lit (.string ⟨⟨[]⟩⟩)), .d (.lit (.slice none 0 0)), .d (i64 0), .d (i64 0), .d (i64 0), .d (i64 0), .d (.lit (.slice none 0 0)), .d (.lit (.slice none 0 0))], .row 49 3 ((n.hard.log.recs.take j).map encRec)] 0, 4⟩) (fun j => j ≤ n.hard.log.recs.length) (fun j => n.hard.log.recs.length - j) 0 (weak_of [0, 1, 2, 4] trivial (by simp) (by simp only [go_sem, Int.natCast_zero, List.take_zero, List.map_nil, Nat.reduceBEq, Nat.reduceAdd, Nat.reduceEqDiff, Nat.reduceLeDiff, Nat.reduceLT, Nat.reduceMul]) (by simp only [go_sem, Int.natCast_zero, List.take_zero, List.map_nil, Nat.reduceBEq, Nat.reduceAdd, Nat.reduceEqDiff, Nat.reduceLeDiff, Nat.reduceLT, Nat.reduceMul])) (Nat.zero_le _) (fun j hj => ?_)
  refine wpA_reg [2, 3, 4, 6, 13, 14, 15, 16] [] rfl (by simp only [go_sem, Nat.reduceBEq, Nat.reduceAdd, Nat.reduceEqDiff, Nat.reduceLeDiff, Nat.reduceLT, Nat.reduceMul]; with_reducible rfl) (by first | trivial | omega | (simp +contextual [inI64, encRec] <;> omega)) ?_
  refine wpA_seq ?_
  refine wpA_cond rfl (fun hc => ?_) (fun hc => ?_)
  · have hc : j < n.hard.log.recs.length := by simpa using hc
    have hg := recs_getD n.hard.log.recs hc
    have e : ((j : Int) - 1).toNat = j - 1 := by omega
    have hg2 := recs_getD n.hard.log.recs (j := j - 1) (by omega)
    have hl := recs_len n.hard.log.recs
    refine wpA_skip ?_
    refine tN ?_
    refine wpA_seq ?_
    refine wpA_block ?_
    refine wpA_reg [2, 3, 4, 6, 8, 13, 14, 15] [] rfl (by simp only [go_sem, hg, hg2, e, encRec, Nat.reduceBEq, Nat.reduceAdd, Nat.reduceEqDiff, Nat.reduceLeDiff, Nat.reduceLT, Nat.reduceMul]; with_reducible rfl) (by first | trivial | omega | (simp +contextual [inI64, hl, hc] <;> omega)) ?_
    refine wpA_region [2, 3, 4, 6, 13, 14, 15] [] rfl (by simp only [go_sem, hg, hg2, e, encRec, Nat.reduceBEq, Nat.reduceAdd, Nat.reduceEqDiff, Nat.reduceLeDiff, Nat.reduceLT, Nat.reduceMul]; with_reducible rfl) (by first | trivial | omega | (simp +contextual [inI64, hl, hc] <;> omega)) ?_
    refine bN (tN ?_)
    refine wpA_region [2, 3, 4, 6, 13, 14, 15] [] rfl (by simp only [go_sem, hg, hg2, e, encRec, Nat.reduceBEq, Nat.reduceAdd, Nat.reduceEqDiff, Nat.reduceLeDiff, Nat.reduceLT, Nat.reduceMul]; with_reducible rfl) (by first | trivial | omega | (simp +contextual [inI64, hl, hc] <;> omega)) ?_
    refine tN ?_
    refine ⟨j + 1, hc, by omega, weak_of [0, 1, 2, 12] trivial (by simp) (by simp only [go_sem, Int.natCast_add, Int.natCast_one, recs_next hc, Nat.reduceBEq, Nat.reduceAdd, Nat.reduceEqDiff, Nat.reduceLeDiff, Nat.reduceLT, Nat.reduceMul]) (by simp only [go_sem, Int.natCast_add, Int.natCast_one, recs_next hc, Nat.reduceBEq, Nat.reduceAdd, Nat.reduceEqDiff, Nat.reduceLeDiff, Nat.reduceLT, Nat.reduceMul])⟩
  · have hc : j = n.hard.log.recs.length := by simp at hc; omega
    subst hc
    rw [List.take_length]
    refine wpA_exit (tE (tE (bE ?_)))
    refine tN ?_
    refine wpA_reg [2, 4, 6] [] rfl (by simp only [go_sem, Nat.reduceBEq, Nat.reduceAdd, Nat.reduceEqDiff, Nat.reduceLeDiff, Nat.reduceLT, Nat.reduceMul]; with_reducible rfl) (by first | trivial | omega | (simp +contextual [inI64, encRec] <;> omega)) ?_
    refine wpA_reg [2, 4] [] rfl (by simp only [go_sem, Nat.reduceBEq, Nat.reduceAdd, Nat.reduceEqDiff, Nat.reduceLeDiff, Nat.reduceLT, Nat.reduceMul]; with_reducible rfl) (by first | trivial | omega | (simp +contextual [inI64, encRec] <;> omega)) ?_
    refine wpA_regD [[2], [2], [33], [34], [4, 32], [35]] [4, 5] [usePure (f31_walk (addR n r).hard) rfl cb31] mx rfl (by simp only [go_sem, Nat.reduceBEq, Nat.reduceAdd, Nat.reduceEqDiff, Nat.reduceLeDiff, Nat.reduceLT, Nat.reduceMul]; with_reducible rfl) (by kernel_rfl) (by first | trivial | omega | (simp +contextual [inI64, addR, List.map_append, encRec, i64, str] <;> omega)) ?_
    refine wpA_ret ?_
    refine endD (.inr rfl) (by simp only [go_sem, Nat.reduceBEq, Nat.reduceAdd, Nat.reduceEqDiff, Nat.reduceLeDiff, Nat.reduceLT, Nat.reduceMul]; with_reducible rfl) ?_
    simp only [go_sem, addR, List.map_append, encRec, List.map_cons, List.map_nil, Nat.reduceBEq, Nat.reduceAdd, Nat.reduceEqDiff, Nat.reduceLeDiff, Nat.reduceLT, Nat.reduceMul]

end Go.Abs
