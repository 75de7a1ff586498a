/- Walks: which states may be. No conditions. -/
import Derived.Test.YtninaiooagfjfaaGreatDoorK29
set_option linter.unusedVariables false
set_option linter.unusedSimpArgs false
set_option maxRecDepth 20000
namespace Go.Abs
open Go Go.RowKit Go.Proofs

/-- May a state be? -/
def walR (h : Hard) : Bool := shaped h && decide ((encB (valOf h)).size ≤ 131072)
theorem shH {h : Hard} (h0 : head71 h = true) : shaped h = false := by rw [shaped71] at h0; simpa using h0
theorem shH2 {h : Hard} (h0 : head71 h = false) : shaped h = true := by rw [shaped71] at h0; simpa using h0
attribute [go_sem] putRes
theorem f109_all : ∀ v : Val, fitV v → (encB v).size ≤ 140737488355328 → CallsA Tryz.prog 109 [.agg (valL v)] [] (.d (str (encB v))) [] :=
  Val.ind (fun n => f109_walk _ (by simp [kids])) (fun s => f109_walk _ (by simp [kids])) (fun l ih => f109_walk _ (by simpa [kids] using ih))
theorem f101_B (h : Hard) (hlen : h.voters.length ≤ 1000000) (hlenr : h.log.recs.length ≤ 1000000) : CallsA Tryz.prog 101 [.agg (hardV h)] [] (.agg (valL (valOf h))) [] := f101_walk h hlen hlenr

theorem cb95 : callB Tryz.prog 95 = true := by kernel_rfl
theorem f95_walk (v : Val) (hc : cnt v ≤ 4000) (hdp : dep v ≤ 30) (hok : fitV v) (hsz : (encB v).size ≤ 140737488355328) : CallsA Tryz.prog 95 [.agg (valL v)] [] (putRes (encB v)) [] := by
  refine callsW_of (fn := Tryz.f95) [.tmp 2, .tmp 3] Tryz.func95 rfl rfl (by show 1 ≤ 17; omega) ?_
  refine wpA_reg [1] [] rfl (by simp only [go_sem, Nat.reduceBEq, Nat.reduceAdd, Nat.reduceEqDiff, Nat.reduceLeDiff, Nat.reduceLT, Nat.reduceMul]; with_reducible rfl) (by first | trivial | omega | (simp +contextual [inI64] <;> omega)) ?_
  refine wpA_reg [1, 4] [usePure (f108_walk v hc hdp) rfl cb108] rfl (by simp only [go_sem, Nat.reduceBEq, Nat.reduceAdd, Nat.reduceEqDiff, Nat.reduceLeDiff, Nat.reduceLT, Nat.reduceMul]; with_reducible rfl) (by first | trivial | omega | (simp +contextual [inI64] <;> omega)) ?_
  refine wpA_seq ?_
  refine wpA_reg [1, 4, 9] [] rfl (by simp only [go_sem, Nat.reduceBEq, Nat.reduceAdd, Nat.reduceEqDiff, Nat.reduceLeDiff, Nat.reduceLT, Nat.reduceMul]; with_reducible rfl) (by first | trivial | omega | (simp +contextual [inI64] <;> omega)) ?_
  refine wpA_cond rfl (fun hd => ?_) (fun hd => ?_)
  · exfalso
    simp at hd
  · have h0 := hd
    refine wpA_skip ?_
    refine tN ?_
    refine wpA_reg [5] [usePure (f109_all v hok hsz) rfl cb109] rfl (by simp only [go_sem, Nat.reduceBEq, Nat.reduceAdd, Nat.reduceEqDiff, Nat.reduceLeDiff, Nat.reduceLT, Nat.reduceMul]; with_reducible rfl) (by first | trivial | omega | (simp +contextual [inI64] <;> omega)) ?_
    refine wpA_seq ?_
    refine wpA_reg [5, 15] [] rfl (by simp only [go_sem, Nat.reduceBEq, Nat.reduceAdd, Nat.reduceEqDiff, Nat.reduceLeDiff, Nat.reduceLT, Nat.reduceMul]; with_reducible rfl) (by first | trivial | omega | (simp +contextual [inI64] <;> omega)) ?_
    refine wpA_cond rfl (fun hd => ?_) (fun hd => ?_)
    · have h1 := hd
      refine wpA_reg [2, 3] [] rfl (by simp only [go_sem, Nat.reduceBEq, Nat.reduceAdd, Nat.reduceEqDiff, Nat.reduceLeDiff, Nat.reduceLT, Nat.reduceMul]; with_reducible rfl) (by first | trivial | omega | (simp +contextual [inI64] <;> omega)) ?_
      refine wpA_ret (tR ?_)
      refine endD (.inr rfl) (by simp only [go_sem, Nat.reduceBEq, Nat.reduceAdd, Nat.reduceEqDiff, Nat.reduceLeDiff, Nat.reduceLT, Nat.reduceMul]; with_reducible rfl) ?_
      simp only [go_sem, Nat.reduceBEq, Nat.reduceAdd, Nat.reduceEqDiff, Nat.reduceLeDiff, Nat.reduceLT, Nat.reduceMul]
      rw [if_neg (by have := of_decide_eq_true h1; omega), if_neg (by have := of_decide_eq_true h1; omega)]
    · have h1 := hd
      refine wpA_skip ?_
      refine tN ?_
      refine wpA_reg [2, 3] [] rfl (by simp only [go_sem, Nat.reduceBEq, Nat.reduceAdd, Nat.reduceEqDiff, Nat.reduceLeDiff, Nat.reduceLT, Nat.reduceMul]; with_reducible rfl) (by first | trivial | omega | (simp +contextual [inI64] <;> omega)) ?_
      refine wpA_ret ?_
      refine endD (.inr rfl) (by simp only [go_sem, Nat.reduceBEq, Nat.reduceAdd, Nat.reduceEqDiff, Nat.reduceLeDiff, Nat.reduceLT, Nat.reduceMul]; with_reducible rfl) ?_
      simp only [go_sem, Nat.reduceBEq, Nat.reduceAdd, Nat.reduceEqDiff, Nat.reduceLeDiff, Nat.reduceLT, Nat.reduceMul]
      rw [if_pos (by have := of_decide_eq_false h1; omega), if_pos (by have := of_decide_eq_false h1; omega)]

theorem cb82 : callB Tryz.prog 82 = true := by kernel_rfl
theorem f82_walk (h : Hard) : CallsA Tryz.prog 82 [.agg (hardV h)] [] (.tup [.d (str (if walR h then encB (valOf h) else ⟨⟨[]⟩⟩)), .d (i64 (if walR h then 0 else 1))]) [] := by
  refine callsW_of (fn := Tryz.f82) [.tmp 2, .tmp 3] Tryz.func82 rfl rfl (by show 1 ≤ 18; omega) ?_
  refine wpA_reg [1] [] rfl (by simp only [go_sem, Nat.reduceBEq, Nat.reduceAdd, Nat.reduceEqDiff, Nat.reduceLeDiff, Nat.reduceLT, Nat.reduceMul]; with_reducible rfl) (by first | trivial | omega | (simp +contextual [inI64] <;> omega)) ?_
  refine wpA_seq ?_
  refine wpA_reg [1, 8] [usePure (f99_walk h) rfl cb99] rfl (by simp only [go_sem, Nat.reduceBEq, Nat.reduceAdd, Nat.reduceEqDiff, Nat.reduceLeDiff, Nat.reduceLT, Nat.reduceMul]; with_reducible rfl) (by first | trivial | omega | (simp +contextual [inI64] <;> omega)) ?_
  refine wpA_cond rfl (fun hd => ?_) (fun hd => ?_)
  · have h0 := hd
    refine wpA_reg [2, 3] [] rfl (by simp only [go_sem, Nat.reduceBEq, Nat.reduceAdd, Nat.reduceEqDiff, Nat.reduceLeDiff, Nat.reduceLT, Nat.reduceMul]; with_reducible rfl) (by first | trivial | omega | (simp +contextual [inI64] <;> omega)) ?_
    refine wpA_ret (tR ?_)
    refine endD (.inr rfl) (by simp only [go_sem, Nat.reduceBEq, Nat.reduceAdd, Nat.reduceEqDiff, Nat.reduceLeDiff, Nat.reduceLT, Nat.reduceMul]; with_reducible rfl) ?_
    simp only [go_sem, Nat.reduceBEq, Nat.reduceAdd, Nat.reduceEqDiff, Nat.reduceLeDiff, Nat.reduceLT, Nat.reduceMul]
    have e : walR h = false := by have h0 : (!(shaped h)) = true := h0; rw [walR]; simp at h0; simp [h0]
    simp [e]
  · have h0 := hd
    have hs : shaped h = true := by simpa using h0
    have hp := shaped_parts hs
    refine wpA_skip ?_
    refine tN ?_
    refine wpA_reg [4, 5] [usePure (f101_B h (by omega) (by omega)) rfl cb101, usePure (f100_walk (valOf h) (valOf_cnt hs) (valOf_dep h) (valOf_kind h) (valOf_fit hs) (valOf_size hs) (valOf_pos h)) rfl cb100] rfl (by simp only [go_sem, Nat.reduceBEq, Nat.reduceAdd, Nat.reduceEqDiff, Nat.reduceLeDiff, Nat.reduceLT, Nat.reduceMul]; with_reducible rfl) (by first | trivial | omega | (simp +contextual [inI64] <;> omega)) ?_
    refine wpA_seq ?_
    refine wpA_reg [4, 16] [] rfl (by simp only [go_sem, Nat.reduceBEq, Nat.reduceAdd, Nat.reduceEqDiff, Nat.reduceLeDiff, Nat.reduceLT, Nat.reduceMul]; with_reducible rfl) (by first | trivial | omega | (simp +contextual [inI64] <;> omega)) ?_
    refine wpA_cond rfl (fun hd => ?_) (fun hd => ?_)
    · have h1 := hd
      refine wpA_reg [2, 3] [] rfl (by simp only [go_sem, Nat.reduceBEq, Nat.reduceAdd, Nat.reduceEqDiff, Nat.reduceLeDiff, Nat.reduceLT, Nat.reduceMul]; with_reducible rfl) (by first | trivial | omega | (simp +contextual [inI64] <;> omega)) ?_
      refine wpA_ret (tR ?_)
      refine endD (.inr rfl) (by simp only [go_sem, Nat.reduceBEq, Nat.reduceAdd, Nat.reduceEqDiff, Nat.reduceLeDiff, Nat.reduceLT, Nat.reduceMul]; with_reducible rfl) ?_
      simp only [go_sem, Nat.reduceBEq, Nat.reduceAdd, Nat.reduceEqDiff, Nat.reduceLeDiff, Nat.reduceLT, Nat.reduceMul]
      have e : walR h = false := by rw [walR, hs]; simp at h1 ⊢; omega
      simp [e]
    · have h1 := hd
      refine wpA_skip ?_
      refine tN ?_
      refine wpA_reg [2, 3] [] rfl (by simp only [go_sem, Nat.reduceBEq, Nat.reduceAdd, Nat.reduceEqDiff, Nat.reduceLeDiff, Nat.reduceLT, Nat.reduceMul]; with_reducible rfl) (by first | trivial | omega | (simp +contextual [inI64] <;> omega)) ?_
      refine wpA_ret ?_
      refine endD (.inr rfl) (by simp only [go_sem, Nat.reduceBEq, Nat.reduceAdd, Nat.reduceEqDiff, Nat.reduceLeDiff, Nat.reduceLT, Nat.reduceMul]; with_reducible rfl) ?_
      simp only [go_sem, Nat.reduceBEq, Nat.reduceAdd, Nat.reduceEqDiff, Nat.reduceLeDiff, Nat.reduceLT, Nat.reduceMul]
      have e : walR h = true := by rw [walR, hs]; simp at h1 ⊢; omega
      have e2 : (encB (valOf h)).size ≤ 131072 := by simp at h1; omega
      simp [e, e2]

theorem cb55 : callB Tryz.prog 55 = true := by kernel_rfl
theorem f55_walk (h : Hard) : CallsA Tryz.prog 55 [.agg (hardV h)] [] (.d (boo (walR h))) [] := by
  refine callsW_of (fn := Tryz.f55) [.tmp 2] Tryz.func55 rfl rfl (by show 1 ≤ 12; omega) ?_
  refine wpA_reg [1] [] rfl (by simp only [go_sem, Nat.reduceBEq, Nat.reduceAdd, Nat.reduceEqDiff, Nat.reduceLeDiff, Nat.reduceLT, Nat.reduceMul]; with_reducible rfl) (by first | trivial | omega | (simp +contextual [inI64] <;> omega)) ?_
  refine wpA_reg [4] [usePure (f82_walk h) rfl cb82] rfl (by simp only [go_sem, Nat.reduceBEq, Nat.reduceAdd, Nat.reduceEqDiff, Nat.reduceLeDiff, Nat.reduceLT, Nat.reduceMul]; with_reducible rfl) (by first | trivial | omega | (simp +contextual [inI64] <;> omega)) ?_
  refine wpA_reg [2] [] rfl (by simp only [go_sem, Nat.reduceBEq, Nat.reduceAdd, Nat.reduceEqDiff, Nat.reduceLeDiff, Nat.reduceLT, Nat.reduceMul]; with_reducible rfl) (by first | trivial | omega | (simp +contextual [inI64] <;> omega)) ?_
  refine wpA_ret ?_
  refine endD (.inr rfl) (by simp only [go_sem, Nat.reduceBEq, Nat.reduceAdd, Nat.reduceEqDiff, Nat.reduceLeDiff, Nat.reduceLT, Nat.reduceMul]; with_reducible rfl) ?_
  simp only [go_sem, Nat.reduceBEq, Nat.reduceAdd, Nat.reduceEqDiff, Nat.reduceLeDiff, Nat.reduceLT, Nat.reduceMul]
  cases walR h <;> rfl

theorem cb71 : callB Tryz.prog 71 = true := by kernel_rfl
theorem f71_walk (h : Hard) : CallsA Tryz.prog 71 [.agg (hardV h)] [] (.tup [.d (str (if walR h then encB (valOf h) else ⟨⟨[]⟩⟩)), .d (boo (walR h))]) [] := by
  refine callsW_of (fn := Tryz.f71) [.tmp 2, .tmp 3] Tryz.func71 rfl rfl (by show 1 ≤ 86; omega) ?_
  refine wpA_reg [1] [] rfl (by simp only [go_sem, Nat.reduceBEq, Nat.reduceAdd, Nat.reduceEqDiff, Nat.reduceLeDiff, Nat.reduceLT, Nat.reduceMul]; with_reducible rfl) (by first | trivial | omega | (simp +contextual [inI64] <;> omega)) ?_
  refine wpA_seq ?_
  refine wpA_reg [1, 38] [usePure (f91_walk (h.term) (0) (1073741824)) rfl cb91, usePure (f91_walk (h.vote) (0) (9)) rfl cb91, usePure (f92_walk h.log h.term) rfl cb92, usePure (f93_walk h.voters) rfl cb93] rfl (by simp only [go_sem, Nat.reduceBEq, Nat.reduceAdd, Nat.reduceEqDiff, Nat.reduceLeDiff, Nat.reduceLT, Nat.reduceMul]; with_reducible rfl) (by first | trivial | omega | (simp +contextual [inI64] <;> omega)) ?_
  refine wpA_cond rfl (fun hd => ?_) (fun hd => ?_)
  · have h0 := hd
    refine wpA_reg [2, 3] [] rfl (by simp only [go_sem, Nat.reduceBEq, Nat.reduceAdd, Nat.reduceEqDiff, Nat.reduceLeDiff, Nat.reduceLT, Nat.reduceMul]; with_reducible rfl) (by first | trivial | omega | (simp +contextual [inI64] <;> omega)) ?_
    refine wpA_ret (tR ?_)
    refine endD (.inr rfl) (by simp only [go_sem, Nat.reduceBEq, Nat.reduceAdd, Nat.reduceEqDiff, Nat.reduceLeDiff, Nat.reduceLT, Nat.reduceMul]; with_reducible rfl) ?_
    simp only [go_sem, Nat.reduceBEq, Nat.reduceAdd, Nat.reduceEqDiff, Nat.reduceLeDiff, Nat.reduceLT, Nat.reduceMul]
    have e : walR h = false := by rw [walR, shH h0]; rfl
    simp [e]
  · have h0 := hd
    have hs : shaped h = true := shH2 h0
    have hp := shaped_parts hs
    refine wpA_skip ?_
    refine tN ?_
    refine wpA_reg [1, 4] [] rfl (by simp only [go_sem, Nat.reduceBEq, Nat.reduceAdd, Nat.reduceEqDiff, Nat.reduceLeDiff, Nat.reduceLT, Nat.reduceMul]; with_reducible rfl) (by first | trivial | omega | (simp +contextual [inI64] <;> omega)) ?_
    refine wpA_seq ?_
    refine wpA_reg [1, 4, 41, 42, 43] [] rfl (by simp only [go_sem, Nat.reduceBEq, Nat.reduceAdd, Nat.reduceEqDiff, Nat.reduceLeDiff, Nat.reduceLT, Nat.reduceMul]; with_reducible rfl) (by first | trivial | omega | (simp +contextual [inI64] <;> omega)) ?_
    refine wpA_block ?_
    refine wpA_loop (fun j : Nat => ⟨[(1, .ptr 0 0), (4, .ptr 1 0), (41, .d (ints h.voters)), (42, .d (i64 h.voters.length)), (43, .d (i64 j))], enum [.var 27 (hardV h), .var 121 [.d (i64 3), .d (i64 0), .d (.lit (.string ⟨⟨[]⟩⟩)), .own 2], .row 121 4 (encVals ((h.voters.take j).map numV))] 0, 3⟩) (fun j => j ≤ h.voters.length) (fun j => h.voters.length - j) 0 ((weak_ownV (k := 34) (i := 3) (el := 121) (sz := 4) rfl rfl).trans (weak_of [0, 34, 40] trivial (by simp) (by simp only [go_sem, Int.natCast_zero, List.take_zero, List.map_nil, encVals, Nat.reduceBEq, Nat.reduceAdd, Nat.reduceEqDiff, Nat.reduceLeDiff, Nat.reduceLT, Nat.reduceMul]) (by simp only [go_sem, Int.natCast_zero, List.take_zero, List.map_nil, encVals, Nat.reduceBEq, Nat.reduceAdd, Nat.reduceEqDiff, Nat.reduceLeDiff, Nat.reduceLT, Nat.reduceMul]))) (Nat.zero_le _) (fun j hj => ?_)
    refine wpA_reg [1, 4, 41, 42, 43, 44] [] rfl (by simp only [go_sem, Nat.reduceBEq, Nat.reduceAdd, Nat.reduceEqDiff, Nat.reduceLeDiff, Nat.reduceLT, Nat.reduceMul]; with_reducible rfl) (by first | trivial | omega | (simp +contextual [inI64] <;> omega)) ?_
    refine wpA_seq ?_
    refine wpA_cond rfl (fun hc => ?_) (fun hc => ?_)
    · have hc : j < h.voters.length := by simpa using hc
      have hg := ints_getD h.voters hc
      have e : ((j : Int) - 1).toNat = j - 1 := by omega
      have hg2 := ints_getD h.voters (j := j - 1) (by omega)
      have hl := ints_len h.voters
      refine wpA_skip ?_
      refine tN ?_
      refine wpA_seq ?_
      refine wpA_block ?_
      refine wpA_reg [1, 4, 6, 41, 42, 43] [] rfl (by simp only [go_sem, hg, hg2, e, encI, Nat.reduceBEq, Nat.reduceAdd, Nat.reduceEqDiff, Nat.reduceLeDiff, Nat.reduceLT, Nat.reduceMul]; with_reducible rfl) (by first | trivial | omega | (simp +contextual [inI64, hl, hc] <;> omega)) ?_
      refine wpA_drawn [[4], [47], [6], [49], [50], [48, 51], [4], [52, 53]] [1, 4, 41, 42, 43] [usePure (f94_walk (iAt h.voters j)) rfl cb94] mx rfl (by simp only [go_sem, hg, hg2, e, encI, Nat.reduceBEq, Nat.reduceAdd, Nat.reduceEqDiff, Nat.reduceLeDiff, Nat.reduceLT, Nat.reduceMul]; with_reducible rfl) (by kernel_rfl) (by first | trivial | omega | (simp +contextual [inI64, hl, hc] <;> omega)) ?_
      refine bN (tN ?_)
      refine wpA_region [1, 4, 41, 42, 43] [] rfl (by simp only [go_sem, hg, hg2, e, encI, Nat.reduceBEq, Nat.reduceAdd, Nat.reduceEqDiff, Nat.reduceLeDiff, Nat.reduceLT, Nat.reduceMul]; with_reducible rfl) (by first | trivial | omega | (simp +contextual [inI64, hl, hc] <;> omega)) ?_
      refine tN ?_
      refine ⟨j + 1, hc, by omega, weak_of [0, 1, 12] trivial (by simp) (by simp only [go_sem, Int.natCast_add, Int.natCast_one, numVs_next hc, Nat.reduceBEq, Nat.reduceAdd, Nat.reduceEqDiff, Nat.reduceLeDiff, Nat.reduceLT, Nat.reduceMul]) (by simp only [go_sem, Int.natCast_add, Int.natCast_one, numVs_next hc, Nat.reduceBEq, Nat.reduceAdd, Nat.reduceEqDiff, Nat.reduceLeDiff, Nat.reduceLT, Nat.reduceMul])⟩
    · have hc : j = h.voters.length := by simp at hc; omega
      subst hc
      rw [List.take_length]
      refine wpA_exit (tE (tE (bE ?_)))
      refine tN ?_
      refine wpA_regD [[1], [56], [57], [1], [59], [60], [1], [62], [63], [64], [1], [66], [67], [68], [1], [70], [71], [4], [1], [74], [75], [76], [58, 61, 65, 69, 72, 73, 77], [78], [79], [80], [55], [55], [81], [82]] [7, 8] [usePure (f94_walk (h.term)) rfl cb94, usePure (f94_walk (h.vote)) rfl cb94, usePure (f94_walk (h.log.base)) rfl cb94, usePure (f94_walk (h.log.bterm)) rfl cb94, usePure (f96_walk h.log.recs (by omega)) rfl cb96, usePure (f95_walk (valOf h) (valOf_cnt hs) (valOf_dep h) (valOf_fit hs) (valOf_size hs)) rfl cb95] mx rfl (by simp only [go_sem, Nat.reduceBEq, Nat.reduceAdd, Nat.reduceEqDiff, Nat.reduceLeDiff, Nat.reduceLT, Nat.reduceMul]; with_reducible rfl) (by kernel_rfl) (by simp +contextual [inI64]; exact ⟨rfl, rfl, rfl, rfl⟩) ?_
      refine wpA_reg [2, 3] [] rfl (by simp only [go_sem, Nat.reduceBEq, Nat.reduceAdd, Nat.reduceEqDiff, Nat.reduceLeDiff, Nat.reduceLT, Nat.reduceMul]; with_reducible rfl) (by first | trivial | omega | (simp +contextual [inI64] <;> omega)) ?_
      refine wpA_ret ?_
      refine endD (.inr rfl) (by simp only [go_sem, Nat.reduceBEq, Nat.reduceAdd, Nat.reduceEqDiff, Nat.reduceLeDiff, Nat.reduceLT, Nat.reduceMul]; with_reducible rfl) ?_
      simp only [go_sem, Nat.reduceBEq, Nat.reduceAdd, Nat.reduceEqDiff, Nat.reduceLeDiff, Nat.reduceLT, Nat.reduceMul]
      rw [walR, hs]; by_cases e : (encB (valOf h)).size ≤ 131072 <;> simp [e] <;> rfl

theorem cb31 : callB Tryz.prog 31 = true := by kernel_rfl
theorem f31_walk (h : Hard) : CallsA Tryz.prog 31 [.agg (hardV h)] [] (.d (boo (walR h))) [] := by
  refine callsW_of (fn := Tryz.f31) [.tmp 2] Tryz.func31 rfl rfl (by show 1 ≤ 11; omega) ?_
  refine wpA_reg [1] [] rfl (by simp only [go_sem, Nat.reduceBEq, Nat.reduceAdd, Nat.reduceEqDiff, Nat.reduceLeDiff, Nat.reduceLT, Nat.reduceMul]; with_reducible rfl) (by first | trivial | omega | (simp +contextual [inI64] <;> omega)) ?_
  refine wpA_reg [4] [usePure (f71_walk h) rfl cb71] rfl (by simp only [go_sem, Nat.reduceBEq, Nat.reduceAdd, Nat.reduceEqDiff, Nat.reduceLeDiff, Nat.reduceLT, Nat.reduceMul]; with_reducible rfl) (by first | trivial | omega | (simp +contextual [inI64] <;> omega)) ?_
  refine wpA_reg [2] [] rfl (by simp only [go_sem, Nat.reduceBEq, Nat.reduceAdd, Nat.reduceEqDiff, Nat.reduceLeDiff, Nat.reduceLT, Nat.reduceMul]; with_reducible rfl) (by first | trivial | omega | (simp +contextual [inI64] <;> omega)) ?_
  refine wpA_ret ?_
  refine endD (.inr rfl) (by simp only [go_sem, Nat.reduceBEq, Nat.reduceAdd, Nat.reduceEqDiff, Nat.reduceLeDiff, Nat.reduceLT, Nat.reduceMul]; with_reducible rfl) ?_
  simp only [go_sem, Nat.reduceBEq, Nat.reduceAdd, Nat.reduceEqDiff, Nat.reduceLeDiff, Nat.reduceLT, Nat.reduceMul]

end Go.Abs
