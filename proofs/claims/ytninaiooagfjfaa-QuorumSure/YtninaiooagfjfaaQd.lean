/- Walks: the reference's answer. No conditions. -/
import Derived.Test.YtninaiooagfjfaaQc
set_option linter.unusedVariables false
set_option linter.unusedSimpArgs false
namespace Go.Abs
open Go Go.RowKit Go.Proofs

theorem cb4 : callB Try.prog 4 = true := by kernel_rfl
theorem cb5 : callB Try.prog 5 = true := by kernel_rfl
theorem cb6 : callB Try.prog 6 = true := by kernel_rfl
theorem cb7 : callB Try.prog 7 = true := by kernel_rfl
theorem cb8 : callB Try.prog 8 = true := by kernel_rfl
theorem cb9 : callB Try.prog 9 = true := by kernel_rfl
theorem cb10 : callB Try.prog 10 = true := by kernel_rfl

theorem right_one : right [1] = true := by decide

theorem f5_walk : CallsA Try.prog 5 [] [] (.d (boo true)) [] := by
  refine callsA_of (fn := Try.f5) rfl rfl (by show 0 ≤ 3; omega) ?_
  refine wpA_reg [] [] rfl (by simp only [go_sem, Nat.reduceBEq, Nat.reduceAdd, Nat.reduceEqDiff, Nat.reduceLeDiff, Nat.reduceLT, Nat.reduceMul]; with_reducible rfl) (by simp) ?_
  refine wpA_reg [0] [usePure (f9_walk [1]) rfl cb9] rfl (by simp only [go_sem, Nat.reduceBEq, Nat.reduceAdd, Nat.reduceEqDiff, Nat.reduceLeDiff, Nat.reduceLT, Nat.reduceMul]; with_reducible rfl) (by simp [encI, i64]) ?_
  refine wpA_ret ?_
  refine ⟨.inr rfl, _, _, weak_of (fr' := [(0, .d (boo true))]) (bs := []) [] trivial (by simp) trivial (by simp only [go_sem, Nat.reduceBEq, right_one]), rfl, rfl⟩

def count (vs : List Int) (c me last : Int) (ps : List Peer) : Nat := vs.countP (fun id => has id c me last ps)
def better (vs : List Int) (me last : Int) (ps : List Peer) (best c : Int) : Int :=
  if c ≤ best ∨ last < c then best else if (vs.length : Int) - count vs c me last ps < count vs c me last ps then c else best
def cands (last : Int) (ps : List Peer) : List Int := last :: ps.map (·.mtch)
def refSure (vs : List Int) (me last : Int) (ps : List Peer) : Int := if right vs then (cands last ps).foldl (better vs me last ps) 0 else 0

theorem foldl_next {α β : Type} (f : β → α → β) (b : β) (l : List α) {j : Nat} (h : j < l.length) : (l.take (j + 1)).foldl f b = f ((l.take j).foldl f b) l[j] := by
  rw [List.take_succ_eq_append_getElem h, List.foldl_append]; rfl

theorem cands_next (last : Int) (ps : List Peer) {j : Nat} (h : j < ps.length) : (cands last (ps.take (j + 1))).map encI = (cands last (ps.take j)).map encI ++ [[.lit (.int .i64 ps[j].mtch)]] := by
  rw [cands, cands, List.take_succ_eq_append_getElem h, List.map_append, List.map_cons, List.map_cons, List.map_append]; rfl
theorem cands_zero (last : Int) (ps : List Peer) : (cands last (ps.take 0)).map encI = [[.lit (.int .i64 last)]] := by simp [cands, encI, i64]
theorem cands_len (last : Int) (ps : List Peer) : (cands last ps).length = ps.length + 1 := by simp [cands]

theorem count_nil (c me last : Int) (ps : List Peer) : count [] c me last ps = 0 := rfl
theorem count_next {vs : List Int} (c me last : Int) (ps : List Peer) {k : Nat} (h : k < vs.length) : count (vs.take (k + 1)) c me last ps = if has vs[k] c me last ps = true then count (vs.take k) c me last ps + 1 else count (vs.take k) c me last ps := by
  rw [count, count, List.take_succ_eq_append_getElem h, List.countP_append, List.countP_cons, List.countP_nil]
  split <;> simp

theorem f4_walk (vs : List Int) (me last : Int) (ps : List Peer) (hps : ps.length ≤ 60) : CallsA Try.prog 4 [.d (ints vs), .d (i64 me), .d (i64 last), .d (peers ps)] [] (.d (i64 (refSure vs me last ps))) [] := by
  refine callsA_len (k := 0) rfl fun hlen => ?_
  rw [List.length_map] at hlen
  refine callsA_of (fn := Try.f4) rfl rfl (by show 4 ≤ 73; omega) ?_
  refine wpA_reg [0, 1, 2, 3] [] rfl (by simp only [go_sem, Nat.reduceBEq, Nat.reduceAdd, Nat.reduceEqDiff, Nat.reduceLeDiff, Nat.reduceLT, Nat.reduceMul]; with_reducible rfl) (by simp) ?_
  refine wpA_seq ?_
  refine wpA_reg [0, 1, 2, 3, 20] [usePure (f7_walk vs) rfl cb7] rfl (by simp only [go_sem, Nat.reduceBEq, Nat.reduceAdd, Nat.reduceEqDiff, Nat.reduceLeDiff, Nat.reduceLT, Nat.reduceMul]; with_reducible rfl) (by simp) ?_
  refine wpA_cond rfl (fun hc => ?_) (fun hc => ?_)
  · refine wpA_reg [8] [] rfl (by simp only [go_sem, Nat.reduceBEq, Nat.reduceAdd, Nat.reduceEqDiff, Nat.reduceLeDiff, Nat.reduceLT, Nat.reduceMul]; with_reducible rfl) (by simp) ?_
    refine wpA_ret (tR ?_)
    refine ⟨.inr rfl, _, _, weak_of (fr' := [(8, .d (i64 0))]) (bs := []) [] trivial (by simp) trivial (by simp only [go_sem, Nat.reduceBEq]), rfl, ?_⟩
    have : right vs = false := by simpa using hc
    rw [refSure, this]; rfl
  have hr : right vs = true := by simpa using hc
  refine wpA_skip ?_
  refine tN ?_
  refine wpA_reg [0, 1, 2, 3, 9] [] rfl (by simp only [go_sem, Nat.reduceBEq, Nat.reduceAdd, Nat.reduceEqDiff, Nat.reduceLeDiff, Nat.reduceLT, Nat.reduceMul]; with_reducible rfl) (by simp) ?_
  refine wpA_seq ?_
  refine wpA_reg [0, 1, 2, 3, 9, 23, 24, 25] [] rfl (by simp only [go_sem, Nat.reduceBEq, Nat.reduceAdd, Nat.reduceEqDiff, Nat.reduceLeDiff, Nat.reduceLT, Nat.reduceMul]; with_reducible rfl) (by simp) ?_
  refine wpA_block ?_
  refine wpA_loop (fun j : Nat => ⟨[(0, .d (ints vs)), (1, .d (i64 me)), (2, .d (i64 last)), (3, .d (peers ps)), (9, .own 0), (23, .d (peers ps)), (24, .d (i64 ps.length)), (25, .d (i64 j))], enum [.row 3 1 ((cands last (ps.take j)).map encI)] 0, 1⟩) (fun j => j ≤ ps.length) (fun j => ps.length - j) 0
    (weak_of [5] trivial (by simp) (by simp only [go_sem, cands_zero, Int.natCast_zero, Nat.reduceBEq, Nat.reduceAdd, Nat.reduceEqDiff, Nat.reduceLeDiff, Nat.reduceLT, Nat.reduceMul]) (by simp only [go_sem, cands_zero, Int.natCast_zero, Nat.reduceBEq, Nat.reduceAdd, Nat.reduceEqDiff, Nat.reduceLeDiff, Nat.reduceLT, Nat.reduceMul])) (Nat.zero_le _) (fun j hj => ?_)
  refine wpA_reg [0, 1, 2, 3, 9, 23, 24, 25, 26] [] rfl (by simp only [go_sem, Nat.reduceBEq, Nat.reduceAdd, Nat.reduceEqDiff, Nat.reduceLeDiff, Nat.reduceLT, Nat.reduceMul]; with_reducible rfl) (by simp) ?_
  refine wpA_seq ?_
  refine wpA_cond rfl (fun hc => ?_) (fun hc => ?_)
  · have hc : j < ps.length := by simpa using hc
    have hg := peers_getD ps hc
    refine wpA_skip ?_
    refine tN ?_
    refine wpA_seq ?_
    refine wpA_block ?_
    refine wpA_reg [0, 1, 2, 3, 9, 11, 23, 24, 25] [] rfl (by simp only [go_sem, hg, encPeer, Nat.reduceBEq, Nat.reduceAdd, Nat.reduceEqDiff, Nat.reduceLeDiff, Nat.reduceLT, Nat.reduceMul]; with_reducible rfl) (by simp [hc, encPeer]) ?_
    refine wpA_region [0, 1, 2, 3, 9, 23, 24, 25] [] rfl (by simp only [go_sem, Nat.reduceBEq, Nat.reduceAdd, Nat.reduceEqDiff, Nat.reduceLeDiff, Nat.reduceLT, Nat.reduceMul]; with_reducible rfl) (by simp [cands_len]; omega) ?_
    refine bN (tN ?_)
    refine wpA_region [0, 1, 2, 3, 9, 23, 24, 25] [] rfl (by simp only [go_sem, Nat.reduceBEq, Nat.reduceAdd, Nat.reduceEqDiff, Nat.reduceLeDiff, Nat.reduceLT, Nat.reduceMul]; with_reducible rfl) (by simp only [inI64]; omega) ?_
    refine tN ?_
    refine ⟨j + 1, hc, by omega, weak_of [10] trivial (by simp) (by simp only [go_sem, cands_next last ps hc, Int.natCast_add, Int.natCast_one, Nat.reduceBEq, Nat.reduceAdd, Nat.reduceEqDiff, Nat.reduceLeDiff, Nat.reduceLT, Nat.reduceMul]) (by simp only [go_sem, cands_next last ps hc, Int.natCast_add, Int.natCast_one, Nat.reduceBEq, Nat.reduceAdd, Nat.reduceEqDiff, Nat.reduceLeDiff, Nat.reduceLT, Nat.reduceMul])⟩
  have hc : j = ps.length := by simp at hc; omega
  subst hc
  rw [List.take_length]
  have hcl := cands_len last ps
  refine wpA_exit (tE (tE (bE ?_)))
  refine tN ?_
  refine wpA_reg [0, 1, 2, 3, 9, 12] [] rfl (by simp only [go_sem, Nat.reduceBEq, Nat.reduceAdd, Nat.reduceEqDiff, Nat.reduceLeDiff, Nat.reduceLT, Nat.reduceMul]; with_reducible rfl) (by simp) ?_
  refine wpA_seq ?_
  refine wpA_reg [0, 1, 2, 3, 12, 35, 36, 37] [] rfl (by simp only [go_sem, Nat.reduceBEq, Nat.reduceAdd, Nat.reduceEqDiff, Nat.reduceLeDiff, Nat.reduceLT, Nat.reduceMul]; with_reducible rfl) (by simp) ?_
  refine wpA_block ?_
  refine wpA_loop (fun j : Nat => ⟨[(0, .d (ints vs)), (1, .d (i64 me)), (2, .d (i64 last)), (3, .d (peers ps)), (12, .d (i64 (((cands last ps).take j).foldl (better vs me last ps) 0))), (35, .own 0), (36, .d (i64 (cands last ps).length)), (37, .d (i64 j))], enum [.row 3 1 ((cands last ps).map encI)] 0, 1⟩) (fun j => j ≤ (cands last ps).length) (fun j => (cands last ps).length - j) 0
    (weak_of [0] trivial (by simp) (by simp only [go_sem, List.take_zero, List.foldl_nil, Int.natCast_zero, Nat.reduceBEq, Nat.reduceAdd, Nat.reduceEqDiff, Nat.reduceLeDiff, Nat.reduceLT, Nat.reduceMul]) (by simp only [go_sem, List.take_zero, List.foldl_nil, Int.natCast_zero, Nat.reduceBEq, Nat.reduceAdd, Nat.reduceEqDiff, Nat.reduceLeDiff, Nat.reduceLT, Nat.reduceMul])) (Nat.zero_le _) (fun j hj => ?_)
  refine wpA_reg [0, 1, 2, 3, 12, 35, 36, 37, 38] [] rfl (by simp only [go_sem, Nat.reduceBEq, Nat.reduceAdd, Nat.reduceEqDiff, Nat.reduceLeDiff, Nat.reduceLT, Nat.reduceMul]; with_reducible rfl) (by simp) ?_
  refine wpA_seq ?_
  refine wpA_cond rfl (fun hc => ?_) (fun hc => ?_)
  · have hc : j < (cands last ps).length := by simpa using hc
    have hg := ints_getD (cands last ps) hc
    have hgd : (cands last ps).getD j 0 = (cands last ps)[j] := by simp [List.getD, hc]
    have hnx := foldl_next (better vs me last ps) 0 (cands last ps) hc
    generalize ((cands last ps).take j).foldl (better vs me last ps) 0 = best at hnx ⊢
    generalize (cands last ps)[j] = c at hnx hgd
    refine wpA_skip ?_
    refine tN ?_
    refine wpA_seq ?_
    refine wpA_block ?_
    refine wpA_reg [0, 1, 2, 3, 12, 14, 35, 36, 37] [] rfl (by simp only [go_sem, hg, hgd, encI, Nat.reduceBEq, Nat.reduceAdd, Nat.reduceEqDiff, Nat.reduceLeDiff, Nat.reduceLT, Nat.reduceMul]; with_reducible rfl) (by simp [hc]) ?_
    refine wpA_seq ?_
    refine wpA_reg [0, 1, 2, 3, 12, 14, 35, 36, 37, 48] [] rfl (by simp only [go_sem, Nat.reduceBEq, Nat.reduceAdd, Nat.reduceEqDiff, Nat.reduceLeDiff, Nat.reduceLT, Nat.reduceMul]; with_reducible rfl) (by simp) ?_
    refine wpA_cond rfl (fun hd => ?_) (fun hd => ?_)
    · have hb : better vs me last ps best c = best := by rw [better, if_pos]; simpa using hd
      refine wpA_exit (tE (bE ?_))
      refine tN ?_
      refine wpA_region [0, 1, 2, 3, 12, 35, 36, 37] [] rfl (by simp only [go_sem, Nat.reduceBEq, Nat.reduceAdd, Nat.reduceEqDiff, Nat.reduceLeDiff, Nat.reduceLT, Nat.reduceMul]; with_reducible rfl) (by simp only [inI64]; omega) ?_
      refine tN ?_
      exact ⟨j + 1, hc, by omega, weak_of [0] trivial (by simp) (by simp only [go_sem, hnx, hb, Int.natCast_add, Int.natCast_one, Nat.reduceBEq, Nat.reduceAdd, Nat.reduceEqDiff, Nat.reduceLeDiff, Nat.reduceLT, Nat.reduceMul]) (by simp only [go_sem, hnx, hb, Int.natCast_add, Int.natCast_one, Nat.reduceBEq, Nat.reduceAdd, Nat.reduceEqDiff, Nat.reduceLeDiff, Nat.reduceLT, Nat.reduceMul])⟩
    · refine wpA_skip ?_
      refine tN ?_
      refine wpA_reg [0, 1, 2, 3, 12, 14, 15, 35, 36, 37] [] rfl (by simp only [go_sem, Nat.reduceBEq, Nat.reduceAdd, Nat.reduceEqDiff, Nat.reduceLeDiff, Nat.reduceLT, Nat.reduceMul]; with_reducible rfl) (by simp) ?_
      refine wpA_seq ?_
      refine wpA_reg [0, 1, 2, 3, 12, 14, 15, 35, 36, 37, 49, 50, 51] [] rfl (by simp only [go_sem, Nat.reduceBEq, Nat.reduceAdd, Nat.reduceEqDiff, Nat.reduceLeDiff, Nat.reduceLT, Nat.reduceMul]; with_reducible rfl) (by simp) ?_
      refine wpA_block ?_
      refine wpA_loop (fun k : Nat => ⟨[(0, .d (ints vs)), (1, .d (i64 me)), (2, .d (i64 last)), (3, .d (peers ps)), (12, .d (i64 best)), (14, .d (i64 c)), (15, .d (i64 (count (vs.take k) c me last ps))), (35, .own 0), (36, .d (i64 (cands last ps).length)), (37, .d (i64 j)), (49, .d (ints vs)), (50, .d (i64 vs.length)), (51, .d (i64 k))], enum [.row 3 1 ((cands last ps).map encI)] 0, 1⟩) (fun k => k ≤ vs.length) (fun k => vs.length - k) 0
        (weak_of [0] trivial (by simp) (by simp only [go_sem, List.take_zero, count_nil, Int.natCast_zero, Nat.reduceBEq, Nat.reduceAdd, Nat.reduceEqDiff, Nat.reduceLeDiff, Nat.reduceLT, Nat.reduceMul]) (by simp only [go_sem, List.take_zero, count_nil, Int.natCast_zero, Nat.reduceBEq, Nat.reduceAdd, Nat.reduceEqDiff, Nat.reduceLeDiff, Nat.reduceLT, Nat.reduceMul])) (Nat.zero_le _) (fun k hk => ?_)
      refine wpA_reg [0, 1, 2, 3, 12, 14, 15, 35, 36, 37, 49, 50, 51, 52] [] rfl (by simp only [go_sem, Nat.reduceBEq, Nat.reduceAdd, Nat.reduceEqDiff, Nat.reduceLeDiff, Nat.reduceLT, Nat.reduceMul]; with_reducible rfl) (by simp) ?_
      refine wpA_seq ?_
      have hcnt : count (vs.take k) c me last ps ≤ k := Nat.le_trans List.countP_le_length (by simp; omega)
      refine wpA_cond rfl (fun he => ?_) (fun he => ?_)
      · have he : k < vs.length := by simpa using he
        have hg2 := ints_getD vs he
        have hgd2 : vs.getD k 0 = vs[k] := by simp [List.getD, he]
        have hl := ints_len vs
        have hcn := count_next c me last ps he
        refine wpA_skip ?_
        refine tN ?_
        refine wpA_seq ?_
        refine wpA_block ?_
        refine wpA_reg [0, 1, 2, 3, 12, 14, 15, 17, 35, 36, 37, 49, 50, 51] [] rfl (by simp only [go_sem, hg2, hgd2, encI, Nat.reduceBEq, Nat.reduceAdd, Nat.reduceEqDiff, Nat.reduceLeDiff, Nat.reduceLT, Nat.reduceMul]; with_reducible rfl) (by exact ⟨by omega, by omega, hl⟩) ?_
        refine wpA_reg [0, 1, 2, 3, 12, 14, 15, 35, 36, 37, 49, 50, 51, 60] [usePure (has_walk vs[k] c me last ps) rfl cb8] rfl (by simp only [go_sem, Nat.reduceBEq, Nat.reduceAdd, Nat.reduceEqDiff, Nat.reduceLeDiff, Nat.reduceLT, Nat.reduceMul]; with_reducible rfl) (by simp) ?_
        refine wpA_cond rfl (fun hf => ?_) (fun hf => ?_)
        · rw [if_pos hf] at hcn
          refine wpA_region [0, 1, 2, 3, 12, 14, 15, 35, 36, 37, 49, 50, 51] [] rfl (by simp only [go_sem, Nat.reduceBEq, Nat.reduceAdd, Nat.reduceEqDiff, Nat.reduceLeDiff, Nat.reduceLT, Nat.reduceMul]; with_reducible rfl) (by simp only [inI64]; omega) ?_
          refine bN (tN ?_)
          refine wpA_region [0, 1, 2, 3, 12, 14, 15, 35, 36, 37, 49, 50, 51] [] rfl (by simp only [go_sem, Nat.reduceBEq, Nat.reduceAdd, Nat.reduceEqDiff, Nat.reduceLeDiff, Nat.reduceLT, Nat.reduceMul]; with_reducible rfl) (by simp only [inI64]; omega) ?_
          refine tN ?_
          exact ⟨k + 1, he, by omega, weak_of [0] trivial (by simp) (by simp only [go_sem, hcn, Int.natCast_add, Int.natCast_one, Nat.reduceBEq, Nat.reduceAdd, Nat.reduceEqDiff, Nat.reduceLeDiff, Nat.reduceLT, Nat.reduceMul]) (by simp only [go_sem, hcn, Int.natCast_add, Int.natCast_one, Nat.reduceBEq, Nat.reduceAdd, Nat.reduceEqDiff, Nat.reduceLeDiff, Nat.reduceLT, Nat.reduceMul])⟩
        · rw [if_neg (by rw [hf]; exact Bool.false_ne_true)] at hcn
          refine wpA_skip ?_
          refine bN (tN ?_)
          refine wpA_region [0, 1, 2, 3, 12, 14, 15, 35, 36, 37, 49, 50, 51] [] rfl (by simp only [go_sem, Nat.reduceBEq, Nat.reduceAdd, Nat.reduceEqDiff, Nat.reduceLeDiff, Nat.reduceLT, Nat.reduceMul]; with_reducible rfl) (by simp only [inI64]; omega) ?_
          refine tN ?_
          exact ⟨k + 1, he, by omega, weak_of [0] trivial (by simp) (by simp only [go_sem, hcn, Int.natCast_add, Int.natCast_one, Nat.reduceBEq, Nat.reduceAdd, Nat.reduceEqDiff, Nat.reduceLeDiff, Nat.reduceLT, Nat.reduceMul]) (by simp only [go_sem, hcn, Int.natCast_add, Int.natCast_one, Nat.reduceBEq, Nat.reduceAdd, Nat.reduceEqDiff, Nat.reduceLeDiff, Nat.reduceLT, Nat.reduceMul])⟩
      · have he : k = vs.length := by simp at he; omega
        subst he
        rw [List.take_length] at hcnt ⊢
        refine wpA_exit (tE (tE (bE ?_)))
        refine tN ?_
        refine wpA_reg [0, 1, 2, 3, 12, 14, 35, 36, 37, 69] [] rfl (by simp only [go_sem, Nat.reduceBEq, Nat.reduceAdd, Nat.reduceEqDiff, Nat.reduceLeDiff, Nat.reduceLT, Nat.reduceMul]; with_reducible rfl) (by simp only [inI64]; omega) ?_
        refine wpA_cond rfl (fun hf => ?_) (fun hf => ?_)
        · have hb : better vs me last ps best c = c := by rw [better, if_neg (by simpa using hd), if_pos (by simpa using hf)]
          refine wpA_region [0, 1, 2, 3, 12, 35, 36, 37] [] rfl (by simp only [go_sem, Nat.reduceBEq, Nat.reduceAdd, Nat.reduceEqDiff, Nat.reduceLeDiff, Nat.reduceLT, Nat.reduceMul]; with_reducible rfl) (by simp) ?_
          refine bN (tN ?_)
          refine wpA_region [0, 1, 2, 3, 12, 35, 36, 37] [] rfl (by simp only [go_sem, Nat.reduceBEq, Nat.reduceAdd, Nat.reduceEqDiff, Nat.reduceLeDiff, Nat.reduceLT, Nat.reduceMul]; with_reducible rfl) (by simp only [inI64]; omega) ?_
          refine tN ?_
          exact ⟨j + 1, hc, by omega, weak_of [0] trivial (by simp) (by simp only [go_sem, hnx, hb, Int.natCast_add, Int.natCast_one, Nat.reduceBEq, Nat.reduceAdd, Nat.reduceEqDiff, Nat.reduceLeDiff, Nat.reduceLT, Nat.reduceMul]) (by simp only [go_sem, hnx, hb, Int.natCast_add, Int.natCast_one, Nat.reduceBEq, Nat.reduceAdd, Nat.reduceEqDiff, Nat.reduceLeDiff, Nat.reduceLT, Nat.reduceMul])⟩
        · have hb : better vs me last ps best c = best := by rw [better, if_neg (by simpa using hd), if_neg (by simpa using hf)]
          refine wpA_skip ?_
          refine bN (tN ?_)
          refine wpA_region [0, 1, 2, 3, 12, 35, 36, 37] [] rfl (by simp only [go_sem, Nat.reduceBEq, Nat.reduceAdd, Nat.reduceEqDiff, Nat.reduceLeDiff, Nat.reduceLT, Nat.reduceMul]; with_reducible rfl) (by simp only [inI64]; omega) ?_
          refine tN ?_
          exact ⟨j + 1, hc, by omega, weak_of [0] trivial (by simp) (by simp only [go_sem, hnx, hb, Int.natCast_add, Int.natCast_one, Nat.reduceBEq, Nat.reduceAdd, Nat.reduceEqDiff, Nat.reduceLeDiff, Nat.reduceLT, Nat.reduceMul]) (by simp only [go_sem, hnx, hb, Int.natCast_add, Int.natCast_one, Nat.reduceBEq, Nat.reduceAdd, Nat.reduceEqDiff, Nat.reduceLeDiff, Nat.reduceLT, Nat.reduceMul])⟩
  · have hc : j = (cands last ps).length := by simp at hc; omega
    subst hc
    rw [List.take_length]
    refine wpA_exit (tE (tE (bE ?_)))
    refine tN ?_
    refine wpA_reg [8] [] rfl (by simp only [go_sem, Nat.reduceBEq, Nat.reduceAdd, Nat.reduceEqDiff, Nat.reduceLeDiff, Nat.reduceLT, Nat.reduceMul]; with_reducible rfl) (by simp) ?_
    refine wpA_ret ?_
    refine ⟨.inr rfl, _, _, weak_of (fr' := [(8, .d (i64 ((cands last ps).foldl (better vs me last ps) 0)))]) (bs := []) [] trivial (by simp) trivial (by simp only [go_sem, Nat.reduceBEq]), rfl, ?_⟩
    rw [refSure, if_pos hr]; rfl
end Go.Abs
