/- Walks: the voters of a state. No conditions. -/
import Derived.Test.YtninaiooagfjfaaGreatDoorK33
set_option linter.unusedVariables false
set_option linter.unusedSimpArgs false
set_option maxRecDepth 20000
namespace Go.Abs
open Go Go.RowKit Go.Proofs

theorem f20_B (s : ByteArray) : CallsA Tryz.prog 20 [.d (str s)] [] (.tup [.d (ints ((parse s).getD [])), .d (i64 (if (parse s).isSome = true then 0 else 160))]) [] := by
  have := f20_walk s
  rwa [parseV20, parse20_eq] at this
theorem cb60 : callB Tryz.prog 60 = true := by kernel_rfl
/-- The voters of a state, so many records being looked at, and where that was said. -/
def ofU (h : Hard) : Nat → List Int × Int
  | 0 => (h.voters, h.log.base)
  | j + 1 => if (rAt h.log.recs j).kind = 2 ∧ (parse (rAt h.log.recs j).data).isSome = true then ((parse (rAt h.log.recs j).data).getD [], h.log.base + 1 + j) else ofU h j
def votersOf (h : Hard) : List Int × Int := ofU h h.log.recs.length
theorem ofU_zero (h : Hard) : ofU h 0 = (h.voters, h.log.base) := rfl
theorem ofU_hit {h : Hard} {j : Nat} (hc : j < h.log.recs.length) (h1 : decide ((rAt h.log.recs (h.log.recs.length - 1 - j)).kind = 2) = true) (h2 : decide ((if (parse (rAt h.log.recs (h.log.recs.length - 1 - j)).data).isSome = true then (0 : Int) else 160) = 0) = true) :
    ofU h (h.log.recs.length - j) = ((parse (rAt h.log.recs (h.log.recs.length - 1 - j)).data).getD [], h.log.base + 1 + ((h.log.recs.length : Int) - 1 - j)) := by
  obtain ⟨k, hk⟩ : ∃ k, h.log.recs.length - j = k + 1 := ⟨h.log.recs.length - 1 - j, by omega⟩
  have hk2 : h.log.recs.length - 1 - j = k := by omega
  rw [hk2] at h1 h2 ⊢
  have h2 := of_decide_eq_true h2
  rw [hk, ofU, if_pos ⟨of_decide_eq_true h1, by by_cases hp : (parse (rAt h.log.recs k).data).isSome = true; exact hp; simp [hp] at h2⟩]
  have : (h.log.recs.length : Int) - 1 - j = k := by omega
  rw [this]
theorem ofU_miss {h : Hard} {j : Nat} (hc : j < h.log.recs.length) (h2 : decide ((if (parse (rAt h.log.recs (h.log.recs.length - 1 - j)).data).isSome = true then (0 : Int) else 160) = 0) = false) :
    ofU h (h.log.recs.length - j) = ofU h (h.log.recs.length - (j + 1)) := by
  obtain ⟨k, hk⟩ : ∃ k, h.log.recs.length - j = k + 1 := ⟨h.log.recs.length - 1 - j, by omega⟩
  have hk2 : h.log.recs.length - 1 - j = k := by omega
  rw [hk2] at h2
  have h2 := of_decide_eq_false h2
  rw [hk, ofU, if_neg (fun e => by simp [e.2] at h2), show h.log.recs.length - (j + 1) = k by omega]
theorem ofU_kind {h : Hard} {j : Nat} (hc : j < h.log.recs.length) (h1 : decide ((rAt h.log.recs (h.log.recs.length - 1 - j)).kind = 2) = false) :
    ofU h (h.log.recs.length - j) = ofU h (h.log.recs.length - (j + 1)) := by
  obtain ⟨k, hk⟩ : ∃ k, h.log.recs.length - j = k + 1 := ⟨h.log.recs.length - 1 - j, by omega⟩
  have hk2 : h.log.recs.length - 1 - j = k := by omega
  rw [hk2] at h1
  rw [hk, ofU, if_neg (fun e => of_decide_eq_false h1 e.1), show h.log.recs.length - (j + 1) = k by omega]
theorem b39_eq (s : ByteArray) : b39 s = (parse s).isSome := by
  rw [← parse39_eq, b39, parse39]
  cases h1 : head39 s <;> cases h2 : allTo (okC s) s.size <;> cases h3 : right (digT s s.size) <;> simp
theorem l39_eq {s : ByteArray} (h : b39 s = true) : l39 s = (parse s).getD [] := by
  rw [← parse39_eq, parse39, l39]
  simp [b39] at h
  simp [h.1, h.2.1, h.2.2]
theorem ofU_yes {h : Hard} {j : Nat} (hc : j < h.log.recs.length) (h0 : decide ((rAt h.log.recs j).kind = 2) = true) (h1 : b39 (rAt h.log.recs j).data = true) :
    ofU h (j + 1) = (l39 (rAt h.log.recs j).data, h.log.base + 1 + j) := by
  rw [ofU, if_pos ⟨of_decide_eq_true h0, by rw [← b39_eq]; exact h1⟩, l39_eq h1]
theorem ofU_no {h : Hard} {j : Nat} (hc : j < h.log.recs.length) (h0 : decide ((rAt h.log.recs j).kind = 2) = true) (h1 : b39 (rAt h.log.recs j).data = false) : ofU h (j + 1) = ofU h j := by
  rw [ofU, if_neg (fun e => by rw [b39_eq] at h1; rw [h1] at e; cases e.2)]
theorem ofU_other {h : Hard} {j : Nat} (hc : j < h.log.recs.length) (h0 : decide ((rAt h.log.recs j).kind = 2) = false) : ofU h (j + 1) = ofU h j := by
  rw [ofU, if_neg (fun e => of_decide_eq_false h0 e.1)]
theorem shaped_data {h : Hard} (hs : shaped h = true) {j : Nat} (hc : j < h.log.recs.length) : (rAt h.log.recs j).data.size ≤ 8192 := by
  have := (shaped_fit hs).2 _ (List.getElem_mem hc)
  rw [rAt_get hc]; exact this.2.2
theorem cb21 : callB Tryz.prog 21 = true := by kernel_rfl
theorem f21_walk (h : Hard) (hs : shaped h = true) : CallsA Tryz.prog 21 [.agg (hardV h)] [] (.tup [.d (ints (votersOf h).1), .d (i64 (votersOf h).2)]) [] := by
  have hp := shaped_parts hs
  refine callsW_of (fn := Tryz.f21) [.tmp 2, .tmp 3] Tryz.func21 rfl rfl (by show 1 ≤ 47; omega) ?_
  refine wpA_reg [1] [] rfl (by simp only [go_sem, Nat.reduceBEq, Nat.reduceAdd, Nat.reduceEqDiff, Nat.reduceLeDiff, Nat.reduceLT, Nat.reduceMul]; with_reducible rfl) (by first | trivial | omega | (simp +contextual [inI64] <;> omega)) ?_
  refine wpA_seq ?_
  refine wpA_reg [1, 4] [] rfl (by simp only [go_sem, Nat.reduceBEq, Nat.reduceAdd, Nat.reduceEqDiff, Nat.reduceLeDiff, Nat.reduceLT, Nat.reduceMul]; with_reducible rfl) (by first | trivial | omega | (simp +contextual [inI64] <;> omega)) ?_
  refine wpA_block ?_
  refine wpA_loop (fun j : Nat => ⟨[(1, .ptr 0 0), (4, .d (i64 (h.log.recs.length - 1 - j)))], enum [.var 27 (hardV h)] 0, 1⟩) (fun j => j ≤ h.log.recs.length ∧ ofU h h.log.recs.length = ofU h (h.log.recs.length - j)) (fun j => h.log.recs.length - j) 0 (weak_of [0] trivial (by simp) (by simp only [go_sem, Int.natCast_zero, Int.sub_zero, Nat.reduceBEq, Nat.reduceAdd, Nat.reduceEqDiff, Nat.reduceLeDiff, Nat.reduceLT, Nat.reduceMul]) (by simp only [go_sem, Int.natCast_zero, Int.sub_zero, Nat.reduceBEq, Nat.reduceAdd, Nat.reduceEqDiff, Nat.reduceLeDiff, Nat.reduceLT, Nat.reduceMul])) ⟨Nat.zero_le _, rfl⟩ (fun j hj => ?_)
  obtain ⟨hj, hjv⟩ := hj
  refine wpA_seq ?_
  refine wpA_reg [1, 4, 14] [] rfl (by simp only [go_sem, Nat.reduceBEq, Nat.reduceAdd, Nat.reduceEqDiff, Nat.reduceLeDiff, Nat.reduceLT, Nat.reduceMul]; with_reducible rfl) (by first | trivial | omega | (simp +contextual [inI64] <;> omega)) ?_
  refine wpA_cond rfl (fun hc => ?_) (fun hc => ?_)
  · have hc : j < h.log.recs.length := by have hc := of_decide_eq_true hc; omega
    have hg := recs_getD h.log.recs (j := h.log.recs.length - 1 - j) (by omega)
    have e : ((h.log.recs.length : Int) - 1 - (j : Int)).toNat = h.log.recs.length - 1 - j := by omega
    have hl := recs_len h.log.recs
    have hm : (h.log.recs.length : Int) - 1 - ((j : Int) + 1) = (h.log.recs.length : Int) - 1 - (j : Int) - 1 := by omega
    refine wpA_skip ?_
    refine tN ?_
    refine wpA_seq ?_
    refine wpA_block ?_
    refine wpA_reg [1, 4, 5] [] rfl (by simp only [go_sem, hg, e, encRec, Nat.reduceBEq, Nat.reduceAdd, Nat.reduceEqDiff, Nat.reduceLeDiff, Nat.reduceLT, Nat.reduceMul]; with_reducible rfl) (by first | trivial | omega | (simp +contextual [inI64, hl, hc] <;> omega)) ?_
    refine wpA_reg [1, 4, 5, 25] [] rfl (by simp only [go_sem, hg, e, encRec, Nat.reduceBEq, Nat.reduceAdd, Nat.reduceEqDiff, Nat.reduceLeDiff, Nat.reduceLT, Nat.reduceMul]; with_reducible rfl) (by first | trivial | omega | (simp +contextual [inI64, hl, hc] <;> omega)) ?_
    refine wpA_cond rfl (fun hd => ?_) (fun hd => ?_)
    · have h0 := hd
      refine wpA_reg [1, 4, 6, 7] [usePure (f20_B (rAt h.log.recs (h.log.recs.length - 1 - j)).data) rfl cb20] rfl (by simp only [go_sem, hg, e, encRec, Nat.reduceBEq, Nat.reduceAdd, Nat.reduceEqDiff, Nat.reduceLeDiff, Nat.reduceLT, Nat.reduceMul]; with_reducible rfl) (by first | trivial | omega | (simp +contextual [inI64, hl, hc] <;> omega)) ?_
      refine wpA_reg [1, 4, 6, 33] [] rfl (by simp only [go_sem, hg, e, encRec, Nat.reduceBEq, Nat.reduceAdd, Nat.reduceEqDiff, Nat.reduceLeDiff, Nat.reduceLT, Nat.reduceMul]; with_reducible rfl) (by first | trivial | omega | (simp +contextual [inI64, hl, hc] <;> omega)) ?_
      refine wpA_cond rfl (fun hd => ?_) (fun hd => ?_)
      · have h1 := hd
        refine wpA_regD [[6], [1], [35], [36], [37], [4], [38, 39], [34], [40]] [2, 3] [] mx rfl (by simp only [go_sem, hg, e, encRec, Nat.reduceBEq, Nat.reduceAdd, Nat.reduceEqDiff, Nat.reduceLeDiff, Nat.reduceLT, Nat.reduceMul]; with_reducible rfl) (by kernel_rfl) (by first | trivial | omega | (simp +contextual [inI64, hl, hc] <;> omega)) ?_
        refine wpA_ret (bR (tR (tR (bR (tR ?_)))))
        refine endD (.inr rfl) (by simp only [go_sem, hg, e, encRec, Nat.reduceBEq, Nat.reduceAdd, Nat.reduceEqDiff, Nat.reduceLeDiff, Nat.reduceLT, Nat.reduceMul]; with_reducible rfl) ?_
        simp only [go_sem, Nat.reduceBEq, Nat.reduceAdd, Nat.reduceEqDiff, Nat.reduceLeDiff, Nat.reduceLT, Nat.reduceMul]
        rw [votersOf, hjv, ofU_hit hc h0 h1]
      · have h1 := hd
        refine wpA_skip ?_
        refine bN (tN ?_)
        refine wpA_region [1, 4] [] rfl (by simp only [go_sem, hg, e, encRec, Nat.reduceBEq, Nat.reduceAdd, Nat.reduceEqDiff, Nat.reduceLeDiff, Nat.reduceLT, Nat.reduceMul]; with_reducible rfl) (by first | trivial | omega | (simp +contextual [inI64, hl, hc] <;> omega)) ?_
        refine tN ?_
        refine ⟨j + 1, ⟨hc, ?_⟩, by omega, weak_of [0] trivial (by simp) (by simp only [go_sem, Int.natCast_add, Int.natCast_one, hm, Nat.reduceBEq, Nat.reduceAdd, Nat.reduceEqDiff, Nat.reduceLeDiff, Nat.reduceLT, Nat.reduceMul]) (by simp only [go_sem, Int.natCast_add, Int.natCast_one, hm, Nat.reduceBEq, Nat.reduceAdd, Nat.reduceEqDiff, Nat.reduceLeDiff, Nat.reduceLT, Nat.reduceMul])⟩
        exact hjv.trans (ofU_miss hc h1)
    · have h0 := hd
      refine wpA_skip ?_
      refine bN (tN ?_)
      refine wpA_region [1, 4] [] rfl (by simp only [go_sem, hg, e, encRec, Nat.reduceBEq, Nat.reduceAdd, Nat.reduceEqDiff, Nat.reduceLeDiff, Nat.reduceLT, Nat.reduceMul]; with_reducible rfl) (by first | trivial | omega | (simp +contextual [inI64, hl, hc] <;> omega)) ?_
      refine tN ?_
      refine ⟨j + 1, ⟨hc, ?_⟩, by omega, weak_of [0] trivial (by simp) (by simp only [go_sem, Int.natCast_add, Int.natCast_one, hm, Nat.reduceBEq, Nat.reduceAdd, Nat.reduceEqDiff, Nat.reduceLeDiff, Nat.reduceLT, Nat.reduceMul]) (by simp only [go_sem, Int.natCast_add, Int.natCast_one, hm, Nat.reduceBEq, Nat.reduceAdd, Nat.reduceEqDiff, Nat.reduceLeDiff, Nat.reduceLT, Nat.reduceMul])⟩
      exact hjv.trans (ofU_kind hc h0)
  · have hc : j = h.log.recs.length := by have hc := of_decide_eq_false hc; omega
    subst hc
    have hall0 := hjv
    refine wpA_exit (tE (tE (bE ?_)))
    refine tN ?_
    refine wpA_regD [[1], [41], [42], [1], [44], [45], [43], [46]] [2, 3] [useAt [] (f60_walk h.voters (by omega)) (id rfl) (id rfl) cb60] mx rfl (by simp only [go_sem, Nat.reduceBEq, Nat.reduceAdd, Nat.reduceEqDiff, Nat.reduceLeDiff, Nat.reduceLT, Nat.reduceMul]; with_reducible rfl) (by kernel_rfl) (by first | trivial | omega | (simp +contextual [inI64] <;> omega)) ?_
    refine wpA_ret ?_
    refine endD (.inr rfl) (by simp only [go_sem, Nat.reduceBEq, Nat.reduceAdd, Nat.reduceEqDiff, Nat.reduceLeDiff, Nat.reduceLT, Nat.reduceMul]; with_reducible rfl) ?_
    simp only [go_sem, Nat.reduceBEq, Nat.reduceAdd, Nat.reduceEqDiff, Nat.reduceLeDiff, Nat.reduceLT, Nat.reduceMul]
    rw [votersOf, hjv, Nat.sub_self]; rfl

theorem cb38 : callB Tryz.prog 38 = true := by kernel_rfl
theorem f38_walk (h : Hard) (hs : shaped h = true) : CallsA Tryz.prog 38 [.agg (hardV h)] [] (.tup [.d (ints (votersOf h).1), .d (i64 (votersOf h).2)]) [] := by
  have hp := shaped_parts hs
  refine callsW_of (fn := Tryz.f38) [.tmp 2, .tmp 3] Tryz.func38 rfl rfl (by show 1 ≤ 44; omega) ?_
  refine wpA_reg [1] [] rfl (by simp only [go_sem, Nat.reduceBEq, Nat.reduceAdd, Nat.reduceEqDiff, Nat.reduceLeDiff, Nat.reduceLT, Nat.reduceMul]; with_reducible rfl) (by first | trivial | omega | (simp +contextual [inI64] <;> omega)) ?_
  refine wpA_reg [1, 4] [] rfl (by simp only [go_sem, Nat.reduceBEq, Nat.reduceAdd, Nat.reduceEqDiff, Nat.reduceLeDiff, Nat.reduceLT, Nat.reduceMul]; with_reducible rfl) (by first | trivial | omega | (simp +contextual [inI64] <;> omega)) ?_
  refine wpA_reg [1, 4, 5] [] rfl (by simp only [go_sem, Nat.reduceBEq, Nat.reduceAdd, Nat.reduceEqDiff, Nat.reduceLeDiff, Nat.reduceLT, Nat.reduceMul]; with_reducible rfl) (by first | trivial | omega | (simp +contextual [inI64] <;> omega)) ?_
  refine wpA_seq ?_
  refine wpA_reg [1, 4, 5, 17, 18, 19] [] rfl (by simp only [go_sem, Nat.reduceBEq, Nat.reduceAdd, Nat.reduceEqDiff, Nat.reduceLeDiff, Nat.reduceLT, Nat.reduceMul]; with_reducible rfl) (by first | trivial | omega | (simp +contextual [inI64] <;> omega)) ?_
  refine wpA_block ?_
  refine wpA_loop (fun j : Nat => ⟨[(1, .ptr 0 0), (4, .d (ints ((ofU h j).1))), (5, .d (i64 ((ofU h j).2))), (17, .d (recs h.log.recs)), (18, .d (i64 h.log.recs.length)), (19, .d (i64 j))], enum [.var 27 (hardV h)] 0, 1⟩) (fun j => j ≤ h.log.recs.length) (fun j => h.log.recs.length - j) 0 (weak_of [0] trivial (by simp) (by simp only [go_sem, Int.natCast_zero, ofU_zero, Nat.reduceBEq, Nat.reduceAdd, Nat.reduceEqDiff, Nat.reduceLeDiff, Nat.reduceLT, Nat.reduceMul]) (by simp only [go_sem, Int.natCast_zero, ofU_zero, Nat.reduceBEq, Nat.reduceAdd, Nat.reduceEqDiff, Nat.reduceLeDiff, Nat.reduceLT, Nat.reduceMul])) (Nat.zero_le _) (fun j hj => ?_)
  refine wpA_reg [1, 4, 5, 17, 18, 19, 20] [] rfl (by simp only [go_sem, Nat.reduceBEq, Nat.reduceAdd, Nat.reduceEqDiff, Nat.reduceLeDiff, Nat.reduceLT, Nat.reduceMul]; with_reducible rfl) (by first | trivial | omega | (simp +contextual [inI64] <;> omega)) ?_
  refine wpA_seq ?_
  refine wpA_cond rfl (fun hc => ?_) (fun hc => ?_)
  · have hc : j < h.log.recs.length := by simpa using hc
    have hg := recs_getD h.log.recs hc
    have e : ((j : Int) - 1).toNat = j - 1 := by omega
    have hg2 := recs_getD h.log.recs (j := j - 1) (by omega)
    have hl := recs_len h.log.recs
    have hds := shaped_data hs hc
    refine wpA_skip ?_
    refine tN ?_
    refine wpA_seq ?_
    refine wpA_block ?_
    refine wpA_reg [1, 4, 5, 6, 7, 17, 18, 19] [] rfl (by simp only [go_sem, hg, hg2, e, encRec, Nat.reduceBEq, Nat.reduceAdd, Nat.reduceEqDiff, Nat.reduceLeDiff, Nat.reduceLT, Nat.reduceMul]; with_reducible rfl) (by first | trivial | omega | (simp +contextual [inI64, hl, hc] <;> omega)) ?_
    refine wpA_reg [1, 4, 5, 6, 7, 17, 18, 19, 26] [] rfl (by simp only [go_sem, hg, hg2, e, encRec, Nat.reduceBEq, Nat.reduceAdd, Nat.reduceEqDiff, Nat.reduceLeDiff, Nat.reduceLT, Nat.reduceMul]; with_reducible rfl) (by first | trivial | omega | (simp +contextual [inI64, hl, hc] <;> omega)) ?_
    refine wpA_cond rfl (fun hd => ?_) (fun hd => ?_)
    · have h0 := hd
      refine wpA_reg [1, 4, 5, 6, 8, 9, 17, 18, 19] [usePure (f39_walk (rAt h.log.recs j).data (by omega)) rfl cb39] rfl (by simp only [go_sem, hg, hg2, e, encRec, Nat.reduceBEq, Nat.reduceAdd, Nat.reduceEqDiff, Nat.reduceLeDiff, Nat.reduceLT, Nat.reduceMul]; with_reducible rfl) (by first | trivial | omega | (simp +contextual [inI64, hl, hc] <;> omega)) ?_
      refine wpA_reg [1, 4, 5, 6, 8, 17, 18, 19, 33] [] rfl (by simp only [go_sem, hg, hg2, e, encRec, Nat.reduceBEq, Nat.reduceAdd, Nat.reduceEqDiff, Nat.reduceLeDiff, Nat.reduceLT, Nat.reduceMul]; with_reducible rfl) (by first | trivial | omega | (simp +contextual [inI64, hl, hc] <;> omega)) ?_
      refine wpA_cond rfl (fun hd => ?_) (fun hd => ?_)
      · have h1 := hd
        have hn := ofU_yes hc h0 h1
        refine wpA_reg [1, 4, 6, 17, 18, 19] [] rfl (by simp only [go_sem, hg, hg2, e, encRec, Nat.reduceBEq, Nat.reduceAdd, Nat.reduceEqDiff, Nat.reduceLeDiff, Nat.reduceLT, Nat.reduceMul]; with_reducible rfl) (by first | trivial | omega | (simp +contextual [inI64, hl, hc] <;> omega)) ?_
        refine wpA_region [1, 4, 5, 17, 18, 19] [] rfl (by simp only [go_sem, hg, hg2, e, encRec, Nat.reduceBEq, Nat.reduceAdd, Nat.reduceEqDiff, Nat.reduceLeDiff, Nat.reduceLT, Nat.reduceMul]; with_reducible rfl) (by first | trivial | omega | (simp +contextual [inI64, hl, hc] <;> omega)) ?_
        refine bN (tN ?_)
        refine wpA_region [1, 4, 5, 17, 18, 19] [] rfl (by simp only [go_sem, hg, hg2, e, encRec, Nat.reduceBEq, Nat.reduceAdd, Nat.reduceEqDiff, Nat.reduceLeDiff, Nat.reduceLT, Nat.reduceMul]; with_reducible rfl) (by first | trivial | omega | (simp +contextual [inI64, hl, hc] <;> omega)) ?_
        refine tN ?_
        refine ⟨j + 1, hc, by omega, weak_of [0] trivial (by simp) (by simp only [go_sem, Int.natCast_add, Int.natCast_one, hn, Nat.reduceBEq, Nat.reduceAdd, Nat.reduceEqDiff, Nat.reduceLeDiff, Nat.reduceLT, Nat.reduceMul]) (by simp only [go_sem, Int.natCast_add, Int.natCast_one, hn, Nat.reduceBEq, Nat.reduceAdd, Nat.reduceEqDiff, Nat.reduceLeDiff, Nat.reduceLT, Nat.reduceMul])⟩
      · have h1 := hd
        have hn := ofU_no hc h0 h1
        refine wpA_skip ?_
        refine bN (tN ?_)
        refine wpA_region [1, 4, 5, 17, 18, 19] [] rfl (by simp only [go_sem, hg, hg2, e, encRec, Nat.reduceBEq, Nat.reduceAdd, Nat.reduceEqDiff, Nat.reduceLeDiff, Nat.reduceLT, Nat.reduceMul]; with_reducible rfl) (by first | trivial | omega | (simp +contextual [inI64, hl, hc] <;> omega)) ?_
        refine tN ?_
        refine ⟨j + 1, hc, by omega, weak_of [0] trivial (by simp) (by simp only [go_sem, Int.natCast_add, Int.natCast_one, hn, Nat.reduceBEq, Nat.reduceAdd, Nat.reduceEqDiff, Nat.reduceLeDiff, Nat.reduceLT, Nat.reduceMul]) (by simp only [go_sem, Int.natCast_add, Int.natCast_one, hn, Nat.reduceBEq, Nat.reduceAdd, Nat.reduceEqDiff, Nat.reduceLeDiff, Nat.reduceLT, Nat.reduceMul])⟩
    · have h0 := hd
      have hn := ofU_other hc h0
      refine wpA_skip ?_
      refine bN (tN ?_)
      refine wpA_region [1, 4, 5, 17, 18, 19] [] rfl (by simp only [go_sem, hg, hg2, e, encRec, Nat.reduceBEq, Nat.reduceAdd, Nat.reduceEqDiff, Nat.reduceLeDiff, Nat.reduceLT, Nat.reduceMul]; with_reducible rfl) (by first | trivial | omega | (simp +contextual [inI64, hl, hc] <;> omega)) ?_
      refine tN ?_
      refine ⟨j + 1, hc, by omega, weak_of [0] trivial (by simp) (by simp only [go_sem, Int.natCast_add, Int.natCast_one, hn, Nat.reduceBEq, Nat.reduceAdd, Nat.reduceEqDiff, Nat.reduceLeDiff, Nat.reduceLT, Nat.reduceMul]) (by simp only [go_sem, Int.natCast_add, Int.natCast_one, hn, Nat.reduceBEq, Nat.reduceAdd, Nat.reduceEqDiff, Nat.reduceLeDiff, Nat.reduceLT, Nat.reduceMul])⟩
  · have hc : j = h.log.recs.length := by simp at hc; omega
    subst hc
    refine wpA_exit (tE (tE (bE ?_)))
    refine tN ?_
    refine wpA_reg [2, 3] [] rfl (by simp only [go_sem, Nat.reduceBEq, Nat.reduceAdd, Nat.reduceEqDiff, Nat.reduceLeDiff, Nat.reduceLT, Nat.reduceMul]; with_reducible rfl) (by first | trivial | omega | (simp +contextual [inI64] <;> omega)) ?_
    refine wpA_ret ?_
    refine endD (.inr rfl) (by simp only [go_sem, Nat.reduceBEq, Nat.reduceAdd, Nat.reduceEqDiff, Nat.reduceLeDiff, Nat.reduceLT, Nat.reduceMul]; with_reducible rfl) ?_
    simp only [go_sem, Nat.reduceBEq, Nat.reduceAdd, Nat.reduceEqDiff, Nat.reduceLeDiff, Nat.reduceLT, Nat.reduceMul]
    rfl

theorem cb73 : callB Tryz.prog 73 = true := by kernel_rfl
theorem f73_walk (n : Node) (hs : shaped n.hard = true) : CallsA Tryz.prog 73 [.agg (nodeV n)] [] (.d (ints (votersOf n.hard).1)) [] := by
  refine callsW_of (fn := Tryz.f73) [.tmp 2] Tryz.func73 rfl rfl (by show 1 ≤ 12; omega) ?_
  refine wpA_reg [1] [] rfl (by simp only [go_sem, Nat.reduceBEq, Nat.reduceAdd, Nat.reduceEqDiff, Nat.reduceLeDiff, Nat.reduceLT, Nat.reduceMul]; with_reducible rfl) (by first | trivial | omega | (simp +contextual [inI64] <;> omega)) ?_
  refine wpA_reg [3] [usePure (f38_walk n.hard hs) rfl cb38] rfl (by simp only [go_sem, Nat.reduceBEq, Nat.reduceAdd, Nat.reduceEqDiff, Nat.reduceLeDiff, Nat.reduceLT, Nat.reduceMul]; with_reducible rfl) (by first | trivial | omega | (simp +contextual [inI64] <;> omega)) ?_
  refine wpA_reg [2] [] rfl (by simp only [go_sem, Nat.reduceBEq, Nat.reduceAdd, Nat.reduceEqDiff, Nat.reduceLeDiff, Nat.reduceLT, Nat.reduceMul]; with_reducible rfl) (by first | trivial | omega | (simp +contextual [inI64] <;> omega)) ?_
  refine wpA_ret ?_
  refine endD (.inr rfl) (by simp only [go_sem, Nat.reduceBEq, Nat.reduceAdd, Nat.reduceEqDiff, Nat.reduceLeDiff, Nat.reduceLT, Nat.reduceMul]; with_reducible rfl) ?_
  simp only [go_sem]

end Go.Abs
