/- Walks and plain law: the place that a majority has (as in QuorumSure's texts). No conditions. -/
import Derived.Test.YtninaiooagfjfaaGreatDoorK34
set_option linter.unusedVariables false
set_option linter.unusedSimpArgs false
set_option maxRecDepth 20000
namespace Go.Abs
open Go Go.RowKit Go.Proofs

theorem peers_getQ (ps : List Peer) {j : Nat} (h : j < ps.length) : (ps.map encPeer).getD j [] = encPeer ps[j] := by simp [List.getD, h]
theorem ints_getQ (l : List Int) {j : Nat} (h : j < l.length) : (l.map encI).getD j [] = encI (l.getD j 0) := by simp [List.getD, h]
theorem cb97 : callB Tryz.prog 97 = true := by kernel_rfl
theorem cb72 : callB Tryz.prog 72 = true := by kernel_rfl
theorem cb69 : callB Tryz.prog 69 = true := by kernel_rfl
theorem cb88 : callB Tryz.prog 88 = true := by kernel_rfl
def hasQ (id x me last : Int) (ps : List Peer) : Bool :=
  if id = me then decide (x ≤ last) else ps.any (fun p => decide (p.id = id) && decide (p.mtch ≥ x)) || decide (x ≤ 0)

theorem f97_walk (id x me last : Int) (ps : List Peer) : CallsA Tryz.prog 97 [.d (i64 id), .d (i64 x), .d (i64 me), .d (i64 last), .d (peers ps)] [] (.d (boo (hasQ id x me last ps))) [] := by
  refine callsA_len (k := 4) rfl fun hlen => ?_
  rw [List.length_map] at hlen
  refine callsA_of (fn := Tryz.f97) Tryz.func97 rfl (by show 5 ≤ 38; omega) ?_
  refine wpA_reg [0, 1, 2, 3, 4] [] rfl (by simp only [go_sem, Nat.reduceBEq, Nat.reduceAdd, Nat.reduceEqDiff, Nat.reduceLeDiff, Nat.reduceLT, Nat.reduceMul]; with_reducible rfl) (by simp) ?_
  refine wpA_seq (wpA_reg [0, 1, 2, 3, 4, 15] [] rfl (by simp only [go_sem, Nat.reduceBEq, Nat.reduceAdd, Nat.reduceEqDiff, Nat.reduceLeDiff, Nat.reduceLT, Nat.reduceMul]; with_reducible rfl) (by simp) (wpA_cond (t := decide (id = me)) rfl (fun h => ?_) (fun h => ?_)))
  · refine wpA_reg [10] [] rfl (by simp only [go_sem, Nat.reduceBEq, Nat.reduceAdd, Nat.reduceEqDiff, Nat.reduceLeDiff, Nat.reduceLT, Nat.reduceMul]; with_reducible rfl) (by simp) (wpA_ret ?_)
    have h := of_decide_eq_true h
    refine ⟨.inr rfl, _, _, weak_of (fr' := [(10, .d (boo (decide (x ≤ last))))]) (bs := []) [] trivial (by simp) trivial (by simp only [go_sem, Nat.reduceBEq]; try simp), rfl, ?_⟩
    simp [hasQ, h, resOne]
  · have h := of_decide_eq_false h
    refine wpA_skip ?_
    dsimp only [thenA]
    refine wpA_seq (wpA_reg [0, 1, 19, 20, 21] [] rfl (by simp only [go_sem, Nat.reduceBEq, Nat.reduceAdd, Nat.reduceEqDiff, Nat.reduceLeDiff, Nat.reduceLT, Nat.reduceMul]; with_reducible rfl) (by simp) (wpA_block ?_))
    refine wpA_loop (fun j : Nat => ⟨[(0, .d (i64 id)), (1, .d (i64 x)), (19, .d (peers ps)), (20, .d (i64 ps.length)), (21, .d (i64 j))], [], 0⟩) (fun j => j ≤ ps.length ∧ (ps.take j).any (fun p => decide (p.id = id) && decide (p.mtch ≥ x)) = false)
      (fun j => ps.length - j) 0 (weak_of (bs := []) [] trivial (by simp) trivial (by simp only [go_sem, Nat.reduceBEq]; try simp)) (by simp) (fun j hj => ?_)
    obtain ⟨hj1, hj2⟩ := hj
    refine wpA_reg [0, 1, 19, 20, 21, 22] [] rfl (by simp only [go_sem, Nat.reduceBEq, Nat.reduceAdd, Nat.reduceEqDiff, Nat.reduceLeDiff, Nat.reduceLT, Nat.reduceMul]; with_reducible rfl) (by simp) (wpA_seq (wpA_cond (t := decide ((j : Int) < ps.length)) rfl (fun h2 => ?_) (fun h2 => ?_)))
    · have h2 : j < ps.length := by simpa using h2
      refine wpA_skip ?_
      dsimp only [thenA]
      have hg := peers_getQ ps h2
      refine wpA_seq (wpA_block (wpA_reg [0, 1, 12, 19, 20, 21] [] rfl (by simp only [go_sem, hg, encPeer, Nat.reduceBEq, Nat.reduceAdd, Nat.reduceEqDiff, Nat.reduceLeDiff, Nat.reduceLT, Nat.reduceMul]; with_reducible rfl) (by simp [h2, encPeer]) ?_))
      refine wpA_reg [0, 1, 19, 20, 21, 34] [] rfl (by simp only [go_sem, Nat.reduceBEq, Nat.reduceAdd, Nat.reduceEqDiff, Nat.reduceLeDiff, Nat.reduceLT, Nat.reduceMul]; with_reducible rfl) (by simp) ?_
      refine wpA_cond rfl (fun h3 => ?_) (fun h3 => ?_)
      · refine wpA_reg [10] [] rfl (by simp only [go_sem, Nat.reduceBEq, Nat.reduceAdd, Nat.reduceEqDiff, Nat.reduceLeDiff, Nat.reduceLT, Nat.reduceMul]; with_reducible rfl) (by simp) (wpA_ret ?_)
        refine ⟨.inr rfl, _, _, weak_of (fr' := [(10, .d (boo true))]) (bs := []) [] trivial (by simp) trivial (by simp only [go_sem, Nat.reduceBEq]), rfl, ?_⟩
        have h4 : (decide (ps[j].id = id) && decide (ps[j].mtch ≥ x)) = true := by simpa using h3
        have : ps.any (fun p => decide (p.id = id) && decide (p.mtch ≥ x)) = true := List.any_eq_true.2 ⟨ps[j], List.getElem_mem h2, h4⟩
        simp only [hasQ, h, this, if_false, Bool.true_or]; rfl
      · have h4 : (decide (ps[j].id = id) && decide (ps[j].mtch ≥ x)) = false := by simpa using h3
        refine wpA_skip ?_
        dsimp only [thenA, blockA]
        refine wpA_region [0, 1, 19, 20, 21] [] rfl (by simp only [go_sem, Nat.reduceBEq, Nat.reduceAdd, Nat.reduceEqDiff, Nat.reduceLeDiff, Nat.reduceLT, Nat.reduceMul]; with_reducible rfl) (by simp only [go_sem, inI64]; omega) ?_
        refine ⟨j + 1, ⟨h2, ?_⟩, by omega, weak_of (bs := []) [] trivial (by simp) trivial (by simp only [go_sem, Nat.reduceBEq, Int.natCast_add, Int.natCast_one])⟩
        rw [List.take_succ_eq_append_getElem h2, List.any_append, hj2]; simpa using h4
    · have h2 : j = ps.length := by simp at h2; omega
      refine wpA_exit ?_
      dsimp only [thenA, blockA]
      rw [if_pos rfl]
      refine wpA_reg [10] [] rfl (by simp only [go_sem, Nat.reduceBEq, Nat.reduceAdd, Nat.reduceEqDiff, Nat.reduceLeDiff, Nat.reduceLT, Nat.reduceMul]; with_reducible rfl) (by simp only [go_sem]) (wpA_ret ?_)
      refine ⟨.inr rfl, _, _, weak_of (fr' := [(10, .d (boo (decide (x ≤ 0))))]) (bs := []) [] trivial (by simp) trivial (by simp only [go_sem, Nat.reduceBEq]), rfl, ?_⟩
      subst h2
      rw [List.take_length] at hj2
      simp only [hasQ, h, hj2, if_false, Bool.false_or]; rfl
def cntQ (vs : List Int) (c me last : Int) (ps : List Peer) : Nat := vs.countP (fun id => hasQ id c me last ps)
def betterQ (vs : List Int) (me last : Int) (ps : List Peer) (best c : Int) : Int :=
  if c ≤ best ∨ last < c then best else if (vs.length : Int) - cntQ vs c me last ps < cntQ vs c me last ps then c else best
def cands (last : Int) (ps : List Peer) : List Int := last :: ps.map (·.mtch)
def refSure (vs : List Int) (me last : Int) (ps : List Peer) : Int := if right vs then (cands last ps).foldl (betterQ vs me last ps) 0 else 0

theorem foldl_next {α β : Type} (f : β → α → β) (b : β) (l : List α) {j : Nat} (h : j < l.length) : (l.take (j + 1)).foldl f b = f ((l.take j).foldl f b) l[j] := by
  rw [List.take_succ_eq_append_getElem h, List.foldl_append]; rfl

theorem cands_next (last : Int) (ps : List Peer) {j : Nat} (h : j < ps.length) : (cands last (ps.take (j + 1))).map encI = (cands last (ps.take j)).map encI ++ [[.lit (.int .i64 ps[j].mtch)]] := by
  rw [cands, cands, List.take_succ_eq_append_getElem h, List.map_append, List.map_cons, List.map_cons, List.map_append]; rfl
theorem cands_zero (last : Int) (ps : List Peer) : (cands last (ps.take 0)).map encI = [[.lit (.int .i64 last)]] := by simp [cands, encI, i64]
theorem cands_len (last : Int) (ps : List Peer) : (cands last ps).length = ps.length + 1 := by simp [cands]

theorem cntQ_nil (c me last : Int) (ps : List Peer) : cntQ [] c me last ps = 0 := rfl
theorem cntQ_next {vs : List Int} (c me last : Int) (ps : List Peer) {k : Nat} (h : k < vs.length) : cntQ (vs.take (k + 1)) c me last ps = if hasQ vs[k] c me last ps = true then cntQ (vs.take k) c me last ps + 1 else cntQ (vs.take k) c me last ps := by
  rw [cntQ, cntQ, List.take_succ_eq_append_getElem h, List.countP_append, List.countP_cons, List.countP_nil]
  split <;> simp

theorem f72_walk (vs : List Int) (me last : Int) (ps : List Peer) (hps : ps.length ≤ 60) : CallsA Tryz.prog 72 [.d (ints vs), .d (i64 me), .d (i64 last), .d (peers ps)] [] (.d (i64 (refSure vs me last ps))) [] := by
  refine callsA_len (k := 0) rfl fun hlen => ?_
  rw [List.length_map] at hlen
  refine callsA_of (fn := Tryz.f72) Tryz.func72 rfl (by show 4 ≤ 73; omega) ?_
  refine wpA_reg [0, 1, 2, 3] [] rfl (by simp only [go_sem, Nat.reduceBEq, Nat.reduceAdd, Nat.reduceEqDiff, Nat.reduceLeDiff, Nat.reduceLT, Nat.reduceMul]; with_reducible rfl) (by simp) ?_
  refine wpA_seq ?_
  refine wpA_reg [0, 1, 2, 3, 20] [usePure (f32_walk vs) rfl cb32] rfl (by simp only [go_sem, Nat.reduceBEq, Nat.reduceAdd, Nat.reduceEqDiff, Nat.reduceLeDiff, Nat.reduceLT, Nat.reduceMul]; with_reducible rfl) (by simp) ?_
  refine wpA_cond rfl (fun hc => ?_) (fun hc => ?_)
  · refine wpA_reg [8] [] rfl (by simp only [go_sem, Nat.reduceBEq, Nat.reduceAdd, Nat.reduceEqDiff, Nat.reduceLeDiff, Nat.reduceLT, Nat.reduceMul]; with_reducible rfl) (by simp) ?_
    refine wpA_ret (tR ?_)
    refine ⟨.inr rfl, _, _, weak_of (fr' := [(8, .d (i64 0))]) (bs := []) [] trivial (by simp) trivial (by simp only [go_sem, Nat.reduceBEq]), rfl, ?_⟩
    have : right vs = false := by simpa using hc
    rw [refSure, this]; rfl
  have hr : right vs = true := by simpa using hc
  refine wpA_skip ?_
  refine tN ?_
  refine wpA_reg [0, 1, 2, 3, 9] [] rfl (by simp only [go_sem, Nat.reduceBEq, Nat.reduceAdd, Nat.reduceEqDiff, Nat.reduceLeDiff, Nat.reduceLT, Nat.reduceMul]; with_reducible rfl) (by simp) ?_
  refine wpA_seq ?_
  refine wpA_reg [0, 1, 2, 3, 9, 23, 24, 25] [] rfl (by simp only [go_sem, Nat.reduceBEq, Nat.reduceAdd, Nat.reduceEqDiff, Nat.reduceLeDiff, Nat.reduceLT, Nat.reduceMul]; with_reducible rfl) (by simp) ?_
  refine wpA_block ?_
  refine wpA_loop (fun j : Nat => ⟨[(0, .d (ints vs)), (1, .d (i64 me)), (2, .d (i64 last)), (3, .d (peers ps)), (9, .own 0), (23, .d (peers ps)), (24, .d (i64 ps.length)), (25, .d (i64 j))], enum [.row 3 1 ((cands last (ps.take j)).map encI)] 0, 1⟩) (fun j => j ≤ ps.length) (fun j => ps.length - j) 0
    (weak_of [5] trivial (by simp) (by simp only [go_sem, cands_zero, Int.natCast_zero, Nat.reduceBEq, Nat.reduceAdd, Nat.reduceEqDiff, Nat.reduceLeDiff, Nat.reduceLT, Nat.reduceMul]) (by simp only [go_sem, cands_zero, Int.natCast_zero, Nat.reduceBEq, Nat.reduceAdd, Nat.reduceEqDiff, Nat.reduceLeDiff, Nat.reduceLT, Nat.reduceMul])) (Nat.zero_le _) (fun j hj => ?_)
  refine wpA_reg [0, 1, 2, 3, 9, 23, 24, 25, 26] [] rfl (by simp only [go_sem, Nat.reduceBEq, Nat.reduceAdd, Nat.reduceEqDiff, Nat.reduceLeDiff, Nat.reduceLT, Nat.reduceMul]; with_reducible rfl) (by simp) ?_
  refine wpA_seq ?_
  refine wpA_cond rfl (fun hc => ?_) (fun hc => ?_)
  · have hc : j < ps.length := by simpa using hc
    have hg := peers_getQ ps hc
    refine wpA_skip ?_
    refine tN ?_
    refine wpA_seq ?_
    refine wpA_block ?_
    refine wpA_reg [0, 1, 2, 3, 9, 11, 23, 24, 25] [] rfl (by simp only [go_sem, hg, encPeer, Nat.reduceBEq, Nat.reduceAdd, Nat.reduceEqDiff, Nat.reduceLeDiff, Nat.reduceLT, Nat.reduceMul]; with_reducible rfl) (by simp [hc, encPeer]) ?_
    refine wpA_region [0, 1, 2, 3, 9, 23, 24, 25] [] rfl (by simp only [go_sem, Nat.reduceBEq, Nat.reduceAdd, Nat.reduceEqDiff, Nat.reduceLeDiff, Nat.reduceLT, Nat.reduceMul]; with_reducible rfl) (by simp [cands_len]; omega) ?_
    refine bN (tN ?_)
    refine wpA_region [0, 1, 2, 3, 9, 23, 24, 25] [] rfl (by simp only [go_sem, Nat.reduceBEq, Nat.reduceAdd, Nat.reduceEqDiff, Nat.reduceLeDiff, Nat.reduceLT, Nat.reduceMul]; with_reducible rfl) (by simp only [inI64]; omega) ?_
    refine tN ?_
    refine ⟨j + 1, hc, by omega, weak_of [10] trivial (by simp) (by simp only [go_sem, cands_next last ps hc, Int.natCast_add, Int.natCast_one, Nat.reduceBEq, Nat.reduceAdd, Nat.reduceEqDiff, Nat.reduceLeDiff, Nat.reduceLT, Nat.reduceMul]) (by simp only [go_sem, cands_next last ps hc, Int.natCast_add, Int.natCast_one, Nat.reduceBEq, Nat.reduceAdd, Nat.reduceEqDiff, Nat.reduceLeDiff, Nat.reduceLT, Nat.reduceMul])⟩
  have hc : j = ps.length := by simp at hc; omega
  subst hc
  rw [List.take_length]
  have hcl := cands_len last ps
  refine wpA_exit (tE (tE (bE ?_)))
  refine tN ?_
  refine wpA_reg [0, 1, 2, 3, 9, 12] [] rfl (by simp only [go_sem, Nat.reduceBEq, Nat.reduceAdd, Nat.reduceEqDiff, Nat.reduceLeDiff, Nat.reduceLT, Nat.reduceMul]; with_reducible rfl) (by simp) ?_
  refine wpA_seq ?_
  refine wpA_reg [0, 1, 2, 3, 12, 35, 36, 37] [] rfl (by simp only [go_sem, Nat.reduceBEq, Nat.reduceAdd, Nat.reduceEqDiff, Nat.reduceLeDiff, Nat.reduceLT, Nat.reduceMul]; with_reducible rfl) (by simp) ?_
  refine wpA_block ?_
  refine wpA_loop (fun j : Nat => ⟨[(0, .d (ints vs)), (1, .d (i64 me)), (2, .d (i64 last)), (3, .d (peers ps)), (12, .d (i64 (((cands last ps).take j).foldl (betterQ vs me last ps) 0))), (35, .own 0), (36, .d (i64 (cands last ps).length)), (37, .d (i64 j))], enum [.row 3 1 ((cands last ps).map encI)] 0, 1⟩) (fun j => j ≤ (cands last ps).length) (fun j => (cands last ps).length - j) 0
    (weak_of [0] trivial (by simp) (by simp only [go_sem, List.take_zero, List.foldl_nil, Int.natCast_zero, Nat.reduceBEq, Nat.reduceAdd, Nat.reduceEqDiff, Nat.reduceLeDiff, Nat.reduceLT, Nat.reduceMul]) (by simp only [go_sem, List.take_zero, List.foldl_nil, Int.natCast_zero, Nat.reduceBEq, Nat.reduceAdd, Nat.reduceEqDiff, Nat.reduceLeDiff, Nat.reduceLT, Nat.reduceMul])) (Nat.zero_le _) (fun j hj => ?_)
  refine wpA_reg [0, 1, 2, 3, 12, 35, 36, 37, 38] [] rfl (by simp only [go_sem, Nat.reduceBEq, Nat.reduceAdd, Nat.reduceEqDiff, Nat.reduceLeDiff, Nat.reduceLT, Nat.reduceMul]; with_reducible rfl) (by simp) ?_
  refine wpA_seq ?_
  refine wpA_cond rfl (fun hc => ?_) (fun hc => ?_)
  · have hc : j < (cands last ps).length := by simpa using hc
    have hg := ints_getQ (cands last ps) hc
    have hgd : (cands last ps).getD j 0 = (cands last ps)[j] := by simp [List.getD, hc]
    have hnx := foldl_next (betterQ vs me last ps) 0 (cands last ps) hc
    generalize ((cands last ps).take j).foldl (betterQ vs me last ps) 0 = best at hnx ⊢
    generalize (cands last ps)[j] = c at hnx hgd
    refine wpA_skip ?_
    refine tN ?_
    refine wpA_seq ?_
    refine wpA_block ?_
    refine wpA_reg [0, 1, 2, 3, 12, 14, 35, 36, 37] [] rfl (by simp only [go_sem, hg, hgd, encI, Nat.reduceBEq, Nat.reduceAdd, Nat.reduceEqDiff, Nat.reduceLeDiff, Nat.reduceLT, Nat.reduceMul]; with_reducible rfl) (by simp [hc]) ?_
    refine wpA_seq ?_
    refine wpA_reg [0, 1, 2, 3, 12, 14, 35, 36, 37, 48] [] rfl (by simp only [go_sem, Nat.reduceBEq, Nat.reduceAdd, Nat.reduceEqDiff, Nat.reduceLeDiff, Nat.reduceLT, Nat.reduceMul]; with_reducible rfl) (by simp) ?_
    refine wpA_cond rfl (fun hd => ?_) (fun hd => ?_)
    · have hb : betterQ vs me last ps best c = best := by rw [betterQ, if_pos]; simpa using hd
      refine wpA_exit (tE (bE ?_))
      refine tN ?_
      refine wpA_region [0, 1, 2, 3, 12, 35, 36, 37] [] rfl (by simp only [go_sem, Nat.reduceBEq, Nat.reduceAdd, Nat.reduceEqDiff, Nat.reduceLeDiff, Nat.reduceLT, Nat.reduceMul]; with_reducible rfl) (by simp only [inI64]; omega) ?_
      refine tN ?_
      exact ⟨j + 1, hc, by omega, weak_of [0] trivial (by simp) (by simp only [go_sem, hnx, hb, Int.natCast_add, Int.natCast_one, Nat.reduceBEq, Nat.reduceAdd, Nat.reduceEqDiff, Nat.reduceLeDiff, Nat.reduceLT, Nat.reduceMul]) (by simp only [go_sem, hnx, hb, Int.natCast_add, Int.natCast_one, Nat.reduceBEq, Nat.reduceAdd, Nat.reduceEqDiff, Nat.reduceLeDiff, Nat.reduceLT, Nat.reduceMul])⟩
    · refine wpA_skip ?_
      refine tN ?_
      refine wpA_reg [0, 1, 2, 3, 12, 14, 15, 35, 36, 37] [] rfl (by simp only [go_sem, Nat.reduceBEq, Nat.reduceAdd, Nat.reduceEqDiff, Nat.reduceLeDiff, Nat.reduceLT, Nat.reduceMul]; with_reducible rfl) (by simp) ?_
      refine wpA_seq ?_
      refine wpA_reg [0, 1, 2, 3, 12, 14, 15, 35, 36, 37, 49, 50, 51] [] rfl (by simp only [go_sem, Nat.reduceBEq, Nat.reduceAdd, Nat.reduceEqDiff, Nat.reduceLeDiff, Nat.reduceLT, Nat.reduceMul]; with_reducible rfl) (by simp) ?_
      refine wpA_block ?_
      refine wpA_loop (fun k : Nat => ⟨[(0, .d (ints vs)), (1, .d (i64 me)), (2, .d (i64 last)), (3, .d (peers ps)), (12, .d (i64 best)), (14, .d (i64 c)), (15, .d (i64 (cntQ (vs.take k) c me last ps))), (35, .own 0), (36, .d (i64 (cands last ps).length)), (37, .d (i64 j)), (49, .d (ints vs)), (50, .d (i64 vs.length)), (51, .d (i64 k))], enum [.row 3 1 ((cands last ps).map encI)] 0, 1⟩) (fun k => k ≤ vs.length) (fun k => vs.length - k) 0
        (weak_of [0] trivial (by simp) (by simp only [go_sem, List.take_zero, cntQ_nil, Int.natCast_zero, Nat.reduceBEq, Nat.reduceAdd, Nat.reduceEqDiff, Nat.reduceLeDiff, Nat.reduceLT, Nat.reduceMul]) (by simp only [go_sem, List.take_zero, cntQ_nil, Int.natCast_zero, Nat.reduceBEq, Nat.reduceAdd, Nat.reduceEqDiff, Nat.reduceLeDiff, Nat.reduceLT, Nat.reduceMul])) (Nat.zero_le _) (fun k hk => ?_)
      refine wpA_reg [0, 1, 2, 3, 12, 14, 15, 35, 36, 37, 49, 50, 51, 52] [] rfl (by simp only [go_sem, Nat.reduceBEq, Nat.reduceAdd, Nat.reduceEqDiff, Nat.reduceLeDiff, Nat.reduceLT, Nat.reduceMul]; with_reducible rfl) (by simp) ?_
      refine wpA_seq ?_
      have hcnt : cntQ (vs.take k) c me last ps ≤ k := Nat.le_trans List.countP_le_length (by simp; omega)
      refine wpA_cond rfl (fun he => ?_) (fun he => ?_)
      · have he : k < vs.length := by simpa using he
        have hg2 := ints_getQ vs he
        have hgd2 : vs.getD k 0 = vs[k] := by simp [List.getD, he]
        have hl := ints_len vs
        have hcn := cntQ_next c me last ps he
        refine wpA_skip ?_
        refine tN ?_
        refine wpA_seq ?_
        refine wpA_block ?_
        refine wpA_reg [0, 1, 2, 3, 12, 14, 15, 17, 35, 36, 37, 49, 50, 51] [] rfl (by simp only [go_sem, hg2, hgd2, encI, Nat.reduceBEq, Nat.reduceAdd, Nat.reduceEqDiff, Nat.reduceLeDiff, Nat.reduceLT, Nat.reduceMul]; with_reducible rfl) (by exact ⟨by omega, by omega, hl⟩) ?_
        refine wpA_reg [0, 1, 2, 3, 12, 14, 15, 35, 36, 37, 49, 50, 51, 60] [usePure (f97_walk vs[k] c me last ps) rfl cb97] rfl (by simp only [go_sem, Nat.reduceBEq, Nat.reduceAdd, Nat.reduceEqDiff, Nat.reduceLeDiff, Nat.reduceLT, Nat.reduceMul]; with_reducible rfl) (by simp) ?_
        refine wpA_cond rfl (fun hf => ?_) (fun hf => ?_)
        · rw [if_pos hf] at hcn
          refine wpA_region [0, 1, 2, 3, 12, 14, 15, 35, 36, 37, 49, 50, 51] [] rfl (by simp only [go_sem, Nat.reduceBEq, Nat.reduceAdd, Nat.reduceEqDiff, Nat.reduceLeDiff, Nat.reduceLT, Nat.reduceMul]; with_reducible rfl) (by simp only [inI64]; omega) ?_
          refine bN (tN ?_)
          refine wpA_region [0, 1, 2, 3, 12, 14, 15, 35, 36, 37, 49, 50, 51] [] rfl (by simp only [go_sem, Nat.reduceBEq, Nat.reduceAdd, Nat.reduceEqDiff, Nat.reduceLeDiff, Nat.reduceLT, Nat.reduceMul]; with_reducible rfl) (by simp only [inI64]; omega) ?_
          refine tN ?_
          exact ⟨k + 1, he, by omega, weak_of [0] trivial (by simp) (by simp only [go_sem, hcn, Int.natCast_add, Int.natCast_one, Nat.reduceBEq, Nat.reduceAdd, Nat.reduceEqDiff, Nat.reduceLeDiff, Nat.reduceLT, Nat.reduceMul]) (by simp only [go_sem, hcn, Int.natCast_add, Int.natCast_one, Nat.reduceBEq, Nat.reduceAdd, Nat.reduceEqDiff, Nat.reduceLeDiff, Nat.reduceLT, Nat.reduceMul])⟩
        · rw [if_neg (by rw [hf]; exact Bool.false_ne_true)] at hcn
          refine wpA_skip ?_
          refine bN (tN ?_)
          refine wpA_region [0, 1, 2, 3, 12, 14, 15, 35, 36, 37, 49, 50, 51] [] rfl (by simp only [go_sem, Nat.reduceBEq, Nat.reduceAdd, Nat.reduceEqDiff, Nat.reduceLeDiff, Nat.reduceLT, Nat.reduceMul]; with_reducible rfl) (by simp only [inI64]; omega) ?_
          refine tN ?_
          exact ⟨k + 1, he, by omega, weak_of [0] trivial (by simp) (by simp only [go_sem, hcn, Int.natCast_add, Int.natCast_one, Nat.reduceBEq, Nat.reduceAdd, Nat.reduceEqDiff, Nat.reduceLeDiff, Nat.reduceLT, Nat.reduceMul]) (by simp only [go_sem, hcn, Int.natCast_add, Int.natCast_one, Nat.reduceBEq, Nat.reduceAdd, Nat.reduceEqDiff, Nat.reduceLeDiff, Nat.reduceLT, Nat.reduceMul])⟩
      · have he : k = vs.length := by simp at he; omega
        subst he
        rw [List.take_length] at hcnt ⊢
        refine wpA_exit (tE (tE (bE ?_)))
        refine tN ?_
        refine wpA_reg [0, 1, 2, 3, 12, 14, 35, 36, 37, 69] [] rfl (by simp only [go_sem, Nat.reduceBEq, Nat.reduceAdd, Nat.reduceEqDiff, Nat.reduceLeDiff, Nat.reduceLT, Nat.reduceMul]; with_reducible rfl) (by simp only [inI64]; omega) ?_
        refine wpA_cond rfl (fun hf => ?_) (fun hf => ?_)
        · have hb : betterQ vs me last ps best c = c := by rw [betterQ, if_neg (by simpa using hd), if_pos (by simpa using hf)]
          refine wpA_region [0, 1, 2, 3, 12, 35, 36, 37] [] rfl (by simp only [go_sem, Nat.reduceBEq, Nat.reduceAdd, Nat.reduceEqDiff, Nat.reduceLeDiff, Nat.reduceLT, Nat.reduceMul]; with_reducible rfl) (by simp) ?_
          refine bN (tN ?_)
          refine wpA_region [0, 1, 2, 3, 12, 35, 36, 37] [] rfl (by simp only [go_sem, Nat.reduceBEq, Nat.reduceAdd, Nat.reduceEqDiff, Nat.reduceLeDiff, Nat.reduceLT, Nat.reduceMul]; with_reducible rfl) (by simp only [inI64]; omega) ?_
          refine tN ?_
          exact ⟨j + 1, hc, by omega, weak_of [0] trivial (by simp) (by simp only [go_sem, hnx, hb, Int.natCast_add, Int.natCast_one, Nat.reduceBEq, Nat.reduceAdd, Nat.reduceEqDiff, Nat.reduceLeDiff, Nat.reduceLT, Nat.reduceMul]) (by simp only [go_sem, hnx, hb, Int.natCast_add, Int.natCast_one, Nat.reduceBEq, Nat.reduceAdd, Nat.reduceEqDiff, Nat.reduceLeDiff, Nat.reduceLT, Nat.reduceMul])⟩
        · have hb : betterQ vs me last ps best c = best := by rw [betterQ, if_neg (by simpa using hd), if_neg (by simpa using hf)]
          refine wpA_skip ?_
          refine bN (tN ?_)
          refine wpA_region [0, 1, 2, 3, 12, 35, 36, 37] [] rfl (by simp only [go_sem, Nat.reduceBEq, Nat.reduceAdd, Nat.reduceEqDiff, Nat.reduceLeDiff, Nat.reduceLT, Nat.reduceMul]; with_reducible rfl) (by simp only [inI64]; omega) ?_
          refine tN ?_
          exact ⟨j + 1, hc, by omega, weak_of [0] trivial (by simp) (by simp only [go_sem, hnx, hb, Int.natCast_add, Int.natCast_one, Nat.reduceBEq, Nat.reduceAdd, Nat.reduceEqDiff, Nat.reduceLeDiff, Nat.reduceLT, Nat.reduceMul]) (by simp only [go_sem, hnx, hb, Int.natCast_add, Int.natCast_one, Nat.reduceBEq, Nat.reduceAdd, Nat.reduceEqDiff, Nat.reduceLeDiff, Nat.reduceLT, Nat.reduceMul])⟩
  · have hc : j = (cands last ps).length := by simp at hc; omega
    subst hc
    rw [List.take_length]
    refine wpA_exit (tE (tE (bE ?_)))
    refine tN ?_
    refine wpA_reg [8] [] rfl (by simp only [go_sem, Nat.reduceBEq, Nat.reduceAdd, Nat.reduceEqDiff, Nat.reduceLeDiff, Nat.reduceLT, Nat.reduceMul]; with_reducible rfl) (by simp) ?_
    refine wpA_ret ?_
    refine ⟨.inr rfl, _, _, weak_of (fr' := [(8, .d (i64 ((cands last ps).foldl (betterQ vs me last ps) 0)))]) (bs := []) [] trivial (by simp) trivial (by simp only [go_sem, Nat.reduceBEq]), rfl, ?_⟩
    rw [refSure, if_pos hr]; rfl
def gotP (id : Int) (ps : List Peer) : Int := ps.foldl (fun g p => if p.id = id then max g p.mtch else g) 0
def valQ (me last : Int) (ps : List Peer) (id : Int) : Int := min (if id = me then last else gotP id ps) last
def sureQ (vs : List Int) (me last : Int) (ps : List Peer) : Int := if right vs ∧ 0 ≤ last then (sorted (vs.map (valQ me last ps))).getD ((vs.length - 1) / 2) 0 else 0

theorem gotP_zero (id : Int) : gotP id [] = 0 := rfl
theorem gotP_next (id : Int) {ps : List Peer} {j : Nat} (h : j < ps.length) : gotP id (ps.take (j + 1)) = if ps[j].id = id then max (gotP id (ps.take j)) ps[j].mtch else gotP id (ps.take j) := foldl_next _ 0 ps h
theorem valQs_next (me last : Int) (ps : List Peer) {vs : List Int} {j : Nat} (h : j < vs.length) : ((vs.take (j + 1)).map (valQ me last ps)).map encI = ((vs.take j).map (valQ me last ps)).map encI ++ [[.lit (.int .i64 (valQ me last ps vs[j]))]] := by
  rw [List.take_succ_eq_append_getElem h, List.map_append, List.map_append]; rfl

theorem f69_walk (vs : List Int) (me last : Int) (ps : List Peer) : CallsA Tryz.prog 69 [.d (ints vs), .d (i64 me), .d (i64 last), .d (peers ps)] [] (.d (i64 (sureQ vs me last ps))) [] := by
  refine callsA_len (k := 0) rfl fun hlen => ?_
  rw [List.length_map] at hlen
  refine callsA_len (k := 3) rfl fun hplen => ?_
  rw [List.length_map] at hplen
  refine callsA_of (fn := Tryz.f69) Tryz.func69 rfl (by show 4 ≤ 63; omega) ?_
  refine wpA_reg [0, 1, 2, 3] [] rfl (by simp only [go_sem, Nat.reduceBEq, Nat.reduceAdd, Nat.reduceEqDiff, Nat.reduceLeDiff, Nat.reduceLT, Nat.reduceMul]; with_reducible rfl) (by simp) ?_
  refine wpA_seq ?_
  refine wpA_reg [0, 1, 2, 3, 21] [usePure (f56_walk vs) rfl cb56] rfl (by simp only [go_sem, Nat.reduceBEq, Nat.reduceAdd, Nat.reduceEqDiff, Nat.reduceLeDiff, Nat.reduceLT, Nat.reduceMul]; with_reducible rfl) (by simp) ?_
  refine wpA_cond rfl (fun hc => ?_) (fun hc => ?_)
  · refine wpA_reg [8] [] rfl (by simp only [go_sem, Nat.reduceBEq, Nat.reduceAdd, Nat.reduceEqDiff, Nat.reduceLeDiff, Nat.reduceLT, Nat.reduceMul]; with_reducible rfl) (by simp) ?_
    refine wpA_ret (tR ?_)
    refine ⟨.inr rfl, _, _, weak_of (fr' := [(8, .d (i64 0))]) (bs := []) [] trivial (by simp) trivial (by simp only [go_sem, Nat.reduceBEq]), rfl, ?_⟩
    rw [sureQ, if_neg (by intro hh; simp [hh.1] at hc; omega)]; rfl
  have hr : right vs = true ∧ 0 ≤ last := by simpa using hc
  have h7 : vs.length ≤ 7 ∧ 1 ≤ vs.length := by have := hr.1; simp [right] at this; omega
  refine wpA_skip ?_
  refine tN ?_
  refine wpA_reg [0, 1, 2, 3, 9] [] rfl (by simp only [go_sem, Nat.reduceBEq, Nat.reduceAdd, Nat.reduceEqDiff, Nat.reduceLeDiff, Nat.reduceLT, Nat.reduceMul]; with_reducible rfl) (by simp) ?_
  refine wpA_seq ?_
  refine wpA_reg [1, 2, 3, 9, 22, 23, 24] [] rfl (by simp only [go_sem, Nat.reduceBEq, Nat.reduceAdd, Nat.reduceEqDiff, Nat.reduceLeDiff, Nat.reduceLT, Nat.reduceMul]; with_reducible rfl) (by simp) ?_
  refine wpA_block ?_
  refine wpA_loop (fun j : Nat => ⟨[(1, .d (i64 me)), (2, .d (i64 last)), (3, .d (peers ps)), (9, .own 0), (22, .d (ints vs)), (23, .d (i64 vs.length)), (24, .d (i64 j))], enum [.row 3 1 (((vs.take j).map (valQ me last ps)).map encI)] 0, 1⟩) (fun j => j ≤ vs.length) (fun j => vs.length - j) 0
    ((weak_own (k := 9) (e := 3) (sz := 1) rfl).trans (weak_of [12] trivial (by simp) (by simp only [go_sem, List.take_zero, Int.natCast_zero, Nat.reduceBEq, Nat.reduceAdd, Nat.reduceEqDiff, Nat.reduceLeDiff, Nat.reduceLT, Nat.reduceMul]) (by simp only [go_sem, List.take_zero, Int.natCast_zero, Nat.reduceBEq, Nat.reduceAdd, Nat.reduceEqDiff, Nat.reduceLeDiff, Nat.reduceLT, Nat.reduceMul]))) (Nat.zero_le _) (fun j hj => ?_)
  refine wpA_reg [1, 2, 3, 9, 22, 23, 24, 25] [] rfl (by simp only [go_sem, Nat.reduceBEq, Nat.reduceAdd, Nat.reduceEqDiff, Nat.reduceLeDiff, Nat.reduceLT, Nat.reduceMul]; with_reducible rfl) (by simp) ?_
  refine wpA_seq ?_
  refine wpA_cond rfl (fun hc => ?_) (fun hc => ?_)
  · have hc : j < vs.length := by simpa using hc
    have hg := ints_getQ vs hc
    have hgd : vs.getD j 0 = vs[j] := by simp [List.getD, hc]
    have hl := ints_len vs
    have hvn := valQs_next me last ps hc
    have hvl : ((vs.take j).map (valQ me last ps)).length ≤ 7 := by simp; omega
    generalize hid : vs[j] = id at hgd hvn
    refine wpA_skip ?_
    refine tN ?_
    refine wpA_seq ?_
    refine wpA_block ?_
    refine wpA_reg [1, 2, 3, 9, 11, 22, 23, 24] [] rfl (by simp only [go_sem, hg, hgd, encI, Nat.reduceBEq, Nat.reduceAdd, Nat.reduceEqDiff, Nat.reduceLeDiff, Nat.reduceLT, Nat.reduceMul]; with_reducible rfl) (by exact ⟨by omega, by omega, hl⟩) ?_
    refine wpA_reg [1, 2, 3, 9, 11, 12, 22, 23, 24] [] rfl (by simp only [go_sem, Nat.reduceBEq, Nat.reduceAdd, Nat.reduceEqDiff, Nat.reduceLeDiff, Nat.reduceLT, Nat.reduceMul]; with_reducible rfl) (by simp) ?_
    refine wpA_seq ?_
    refine wpA_reg [1, 2, 3, 9, 11, 12, 22, 23, 24, 28, 29, 30] [] rfl (by simp only [go_sem, Nat.reduceBEq, Nat.reduceAdd, Nat.reduceEqDiff, Nat.reduceLeDiff, Nat.reduceLT, Nat.reduceMul]; with_reducible rfl) (by simp) ?_
    refine wpA_block ?_
    refine wpA_loop (fun k : Nat => ⟨[(1, .d (i64 me)), (2, .d (i64 last)), (3, .d (peers ps)), (9, .own 0), (11, .d (i64 id)), (12, .d (i64 (gotP id (ps.take k)))), (22, .d (ints vs)), (23, .d (i64 vs.length)), (24, .d (i64 j)), (28, .d (peers ps)), (29, .d (i64 ps.length)), (30, .d (i64 k))], enum [.row 3 1 (((vs.take j).map (valQ me last ps)).map encI)] 0, 1⟩) (fun k => k ≤ ps.length) (fun k => ps.length - k) 0
      (weak_of [0] trivial (by simp) (by simp only [go_sem, List.take_zero, gotP_zero, Int.natCast_zero, Nat.reduceBEq, Nat.reduceAdd, Nat.reduceEqDiff, Nat.reduceLeDiff, Nat.reduceLT, Nat.reduceMul]) (by simp only [go_sem, List.take_zero, gotP_zero, Int.natCast_zero, Nat.reduceBEq, Nat.reduceAdd, Nat.reduceEqDiff, Nat.reduceLeDiff, Nat.reduceLT, Nat.reduceMul])) (Nat.zero_le _) (fun k hk => ?_)
    refine wpA_reg [1, 2, 3, 9, 11, 12, 22, 23, 24, 28, 29, 30, 31] [] rfl (by simp only [go_sem, Nat.reduceBEq, Nat.reduceAdd, Nat.reduceEqDiff, Nat.reduceLeDiff, Nat.reduceLT, Nat.reduceMul]; with_reducible rfl) (by simp) ?_
    refine wpA_seq ?_
    refine wpA_cond rfl (fun hd => ?_) (fun hd => ?_)
    · have hd : k < ps.length := by simpa using hd
      have hgp := peers_getQ ps hd
      have hn := gotP_next id hd
      refine wpA_skip ?_
      refine tN ?_
      refine wpA_seq ?_
      refine wpA_block ?_
      refine wpA_reg [1, 2, 3, 9, 11, 12, 14, 22, 23, 24, 28, 29, 30] [] rfl (by simp only [go_sem, hgp, encPeer, Nat.reduceBEq, Nat.reduceAdd, Nat.reduceEqDiff, Nat.reduceLeDiff, Nat.reduceLT, Nat.reduceMul]; with_reducible rfl) (by simp [hd, encPeer]) ?_
      refine wpA_reg [1, 2, 3, 9, 11, 12, 14, 22, 23, 24, 28, 29, 30, 37] [] rfl (by simp only [go_sem, Nat.reduceBEq, Nat.reduceAdd, Nat.reduceEqDiff, Nat.reduceLeDiff, Nat.reduceLT, Nat.reduceMul]; with_reducible rfl) (by simp) ?_
      refine wpA_cond rfl (fun he => ?_) (fun he => ?_)
      · rw [if_pos (by simpa using he)] at hn
        refine wpA_region [1, 2, 3, 9, 11, 12, 22, 23, 24, 28, 29, 30] [] rfl (by simp only [go_sem, Nat.reduceBEq, Nat.reduceAdd, Nat.reduceEqDiff, Nat.reduceLeDiff, Nat.reduceLT, Nat.reduceMul]; with_reducible rfl) (by simp) ?_
        refine bN (tN ?_)
        refine wpA_region [1, 2, 3, 9, 11, 12, 22, 23, 24, 28, 29, 30] [] rfl (by simp only [go_sem, Nat.reduceBEq, Nat.reduceAdd, Nat.reduceEqDiff, Nat.reduceLeDiff, Nat.reduceLT, Nat.reduceMul]; with_reducible rfl) (by simp only [inI64]; omega) ?_
        refine tN ?_
        exact ⟨k + 1, hd, by omega, weak_of [0] trivial (by simp) (by simp only [go_sem, hn, Int.natCast_add, Int.natCast_one, Nat.reduceBEq, Nat.reduceAdd, Nat.reduceEqDiff, Nat.reduceLeDiff, Nat.reduceLT, Nat.reduceMul]) (by simp only [go_sem, hn, Int.natCast_add, Int.natCast_one, Nat.reduceBEq, Nat.reduceAdd, Nat.reduceEqDiff, Nat.reduceLeDiff, Nat.reduceLT, Nat.reduceMul])⟩
      · rw [if_neg (by simpa using he)] at hn
        refine wpA_skip ?_
        refine bN (tN ?_)
        refine wpA_region [1, 2, 3, 9, 11, 12, 22, 23, 24, 28, 29, 30] [] rfl (by simp only [go_sem, Nat.reduceBEq, Nat.reduceAdd, Nat.reduceEqDiff, Nat.reduceLeDiff, Nat.reduceLT, Nat.reduceMul]; with_reducible rfl) (by simp only [inI64]; omega) ?_
        refine tN ?_
        exact ⟨k + 1, hd, by omega, weak_of [0] trivial (by simp) (by simp only [go_sem, hn, Int.natCast_add, Int.natCast_one, Nat.reduceBEq, Nat.reduceAdd, Nat.reduceEqDiff, Nat.reduceLeDiff, Nat.reduceLT, Nat.reduceMul]) (by simp only [go_sem, hn, Int.natCast_add, Int.natCast_one, Nat.reduceBEq, Nat.reduceAdd, Nat.reduceEqDiff, Nat.reduceLeDiff, Nat.reduceLT, Nat.reduceMul])⟩
    · have hd : k = ps.length := by simp at hd; omega
      subst hd
      rw [List.take_length]
      refine wpA_exit (tE (tE (bE ?_)))
      refine tN ?_
      refine wpA_seq ?_
      refine wpA_reg [1, 2, 3, 9, 11, 12, 22, 23, 24, 45] [] rfl (by simp only [go_sem, Nat.reduceBEq, Nat.reduceAdd, Nat.reduceEqDiff, Nat.reduceLeDiff, Nat.reduceLT, Nat.reduceMul]; with_reducible rfl) (by simp) ?_
      refine wpA_cond rfl (fun he => ?_) (fun he => ?_)
      · have hv : valQ me last ps id = min last last := by rw [valQ, if_pos (by simpa using he)]
        refine wpA_region [1, 2, 3, 9, 12, 22, 23, 24] [] rfl (by simp only [go_sem, Nat.reduceBEq, Nat.reduceAdd, Nat.reduceEqDiff, Nat.reduceLeDiff, Nat.reduceLT, Nat.reduceMul]; with_reducible rfl) (by simp) ?_
        refine tN ?_
        refine wpA_region [1, 2, 3, 9, 22, 23, 24] [] rfl (by simp only [go_sem, Nat.reduceBEq, Nat.reduceAdd, Nat.reduceEqDiff, Nat.reduceLeDiff, Nat.reduceLT, Nat.reduceMul]; with_reducible rfl) (by simp; omega) ?_
        refine bN (tN ?_)
        refine wpA_region [1, 2, 3, 9, 22, 23, 24] [] rfl (by simp only [go_sem, Nat.reduceBEq, Nat.reduceAdd, Nat.reduceEqDiff, Nat.reduceLeDiff, Nat.reduceLT, Nat.reduceMul]; with_reducible rfl) (by simp only [inI64]; omega) ?_
        refine tN ?_
        exact ⟨j + 1, hc, by omega, weak_of [12] trivial (by simp) (by simp only [go_sem, hvn, hv, Int.natCast_add, Int.natCast_one, Nat.reduceBEq, Nat.reduceAdd, Nat.reduceEqDiff, Nat.reduceLeDiff, Nat.reduceLT, Nat.reduceMul]) (by simp only [go_sem, hvn, hv, Int.natCast_add, Int.natCast_one, Nat.reduceBEq, Nat.reduceAdd, Nat.reduceEqDiff, Nat.reduceLeDiff, Nat.reduceLT, Nat.reduceMul])⟩
      · have hv : valQ me last ps id = min (gotP id ps) last := by rw [valQ, if_neg (by simpa using he)]
        refine wpA_skip ?_
        refine tN ?_
        refine wpA_region [1, 2, 3, 9, 22, 23, 24] [] rfl (by simp only [go_sem, Nat.reduceBEq, Nat.reduceAdd, Nat.reduceEqDiff, Nat.reduceLeDiff, Nat.reduceLT, Nat.reduceMul]; with_reducible rfl) (by simp; omega) ?_
        refine bN (tN ?_)
        refine wpA_region [1, 2, 3, 9, 22, 23, 24] [] rfl (by simp only [go_sem, Nat.reduceBEq, Nat.reduceAdd, Nat.reduceEqDiff, Nat.reduceLeDiff, Nat.reduceLT, Nat.reduceMul]; with_reducible rfl) (by simp only [inI64]; omega) ?_
        refine tN ?_
        exact ⟨j + 1, hc, by omega, weak_of [10] trivial (by simp) (by simp only [go_sem, hvn, hv, Int.natCast_add, Int.natCast_one, Nat.reduceBEq, Nat.reduceAdd, Nat.reduceEqDiff, Nat.reduceLeDiff, Nat.reduceLT, Nat.reduceMul]) (by simp only [go_sem, hvn, hv, Int.natCast_add, Int.natCast_one, Nat.reduceBEq, Nat.reduceAdd, Nat.reduceEqDiff, Nat.reduceLeDiff, Nat.reduceLT, Nat.reduceMul])⟩
  · have hc : j = vs.length := by simp at hc; omega
    subst hc
    rw [List.take_length]
    have hsl : (sorted (vs.map (valQ me last ps))).length = vs.length := by simp [sorted]
    have hq : ((vs.length : Int) - 1) / 2 = ((vs.length - 1) / 2 : Nat) := by omega
    have hgs := ints_getQ (sorted (vs.map (valQ me last ps))) (j := (vs.length - 1) / 2) (by omega)
    refine wpA_exit (tE (tE (bE ?_)))
    refine tN ?_
    refine wpA_reg [9] [useAt [0] (f88_walk (vs.map (valQ me last ps)) (by simp; omega)) (by simp) (by simp [tokB, tokBlks, tokBlk, tokLB]) cb88] rfl (by simp only [go_sem, Nat.reduceBEq, Nat.reduceAdd, Nat.reduceEqDiff, Nat.reduceLeDiff, Nat.reduceLT, Nat.reduceMul]; with_reducible rfl) (by simp) ?_
    have hs : sureQ vs me last ps = (sorted (vs.map (valQ me last ps))).getD ((vs.length - 1) / 2) 0 := by rw [sureQ, if_pos hr]
    refine wpA_reg [8] [] rfl (by simp only [go_sem, hsl, hq, hgs, encI, Nat.reduceBEq, Nat.reduceAdd, Nat.reduceEqDiff, Nat.reduceLeDiff, Nat.reduceLT, Nat.reduceMul]; with_reducible rfl) (by simp only [inI64]; omega) ?_
    refine wpA_ret ?_
    refine ⟨.inr rfl, _, _, weak_of (fr' := [(8, .d (i64 (sureQ vs me last ps)))]) (bs := []) [] trivial (by simp) trivial (by simp only [go_sem, hs, Nat.reduceBEq]), rfl, rfl⟩
def want (vs : List Int) (me last : Int) (ps : List Peer) : Int := if 0 ≤ last then refSure vs me last ps else 0
theorem sorted_le (l : List Int) : (sorted l).Pairwise (fun x y => x ≤ y) := by
  have := List.pairwise_mergeSort (le := fun x y : Int => decide (x ≤ y)) (fun a b c h1 h2 => by simp at *; omega) (fun a b => by simp; omega) l
  exact this.imp (fun h => by simpa using h)
theorem sorted_perm (l : List Int) : (sorted l).Perm l := List.mergeSort_perm l _

theorem countP_hi {l : List Int} (h : l.Pairwise (fun x y => x ≤ y)) {k : Nat} (hk : k < l.length) {c : Int} (hc : c ≤ l[k]) : l.length - k ≤ l.countP (fun x => decide (c ≤ x)) := by
  have h1 : l.countP (fun x => decide (c ≤ x)) = (l.take k).countP (fun x => decide (c ≤ x)) + (l.drop k).countP (fun x => decide (c ≤ x)) := by rw [← List.countP_append, List.take_append_drop]
  have h2 : (l.drop k).countP (fun x => decide (c ≤ x)) = (l.drop k).length := by
    refine List.countP_eq_length.2 fun x hx => ?_
    obtain ⟨i, hi, e⟩ := List.getElem_of_mem hx
    rw [List.getElem_drop] at e
    have : l[k] ≤ x := by
      rcases Nat.eq_zero_or_pos i with h0 | h0
      · subst h0; simp at e; omega
      · have := List.pairwise_iff_getElem.1 h k (k + i) hk (by simp at hi; omega) (by omega); omega
    simp; omega
  rw [h1, h2, List.length_drop]; omega
theorem countP_lo {l : List Int} (h : l.Pairwise (fun x y => x ≤ y)) {k : Nat} (hk : k < l.length) {c : Int} (hc : l[k] < c) : l.countP (fun x => decide (c ≤ x)) ≤ l.length - 1 - k := by
  have h1 : l.countP (fun x => decide (c ≤ x)) = (l.take (k + 1)).countP (fun x => decide (c ≤ x)) + (l.drop (k + 1)).countP (fun x => decide (c ≤ x)) := by rw [← List.countP_append, List.take_append_drop]
  have h2 : (l.take (k + 1)).countP (fun x => decide (c ≤ x)) = 0 := by
    refine List.countP_eq_zero.2 fun x hx => ?_
    obtain ⟨i, hi, e⟩ := List.getElem_of_mem hx
    rw [List.getElem_take] at e
    have hi' : i < k + 1 := by simp at hi; omega
    have : x ≤ l[k] := by
      rcases Nat.lt_or_ge i k with h0 | h0
      · have := List.pairwise_iff_getElem.1 h i k (by omega) hk h0; omega
      · have : i = k := by omega
        subst this; omega
    simp; omega
  have h3 := List.countP_le_length (p := fun x => decide (c ≤ x)) (l := l.drop (k + 1))
  rw [h1, h2, Nat.zero_add]
  refine Nat.le_trans h3 ?_
  rw [List.length_drop]; omega

theorem gotP_ge (id : Int) (ps : List Peer) : ∀ (l : List Peer) (g : Int), 0 ≤ g → 0 ≤ l.foldl (fun g p => if p.id = id then max g p.mtch else g) g
  | [], g, h => h
  | p :: r, g, h => by
    rw [List.foldl_cons]
    refine gotP_ge id ps r _ ?_
    split <;> omega
theorem gotP_iff (id : Int) {c : Int} : ∀ (l : List Peer) (g : Int), c ≤ l.foldl (fun g p => if p.id = id then max g p.mtch else g) g ↔ c ≤ g ∨ ∃ p ∈ l, p.id = id ∧ c ≤ p.mtch
  | [], g => by simp
  | p :: r, g => by
    rw [List.foldl_cons, gotP_iff id r]
    constructor
    · rintro (h | ⟨q, hq, h⟩)
      · split at h
        · rename_i e
          rcases Int.le_total c g with h' | h'
          · exact .inl h'
          · rcases (show c ≤ g ∨ c ≤ p.mtch by omega) with h2 | h2
            · exact .inl h2
            · exact .inr ⟨p, List.mem_cons_self, e, h2⟩
        · exact .inl h
      · exact .inr ⟨q, List.mem_cons_of_mem _ hq, h⟩
    · rintro (h | ⟨q, hq, h⟩)
      · left; split <;> omega
      · rcases List.mem_cons.1 hq with rfl | hq
        · left; rw [if_pos h.1]; omega
        · exact .inr ⟨q, hq, h⟩
theorem gotP_mem (id : Int) : ∀ (l : List Peer) (g : Int), l.foldl (fun g p => if p.id = id then max g p.mtch else g) g = g ∨ ∃ p ∈ l, l.foldl (fun g p => if p.id = id then max g p.mtch else g) g = p.mtch
  | [], g => .inl rfl
  | p :: r, g => by
    rw [List.foldl_cons]
    rcases gotP_mem id r (if p.id = id then max g p.mtch else g) with h | ⟨q, hq, h⟩
    · rw [h]
      split
      · rcases Int.le_total g p.mtch with h' | h'
        · right; exact ⟨p, List.mem_cons_self, by omega⟩
        · left; omega
      · exact .inl rfl
    · exact .inr ⟨q, List.mem_cons_of_mem _ hq, h⟩

theorem has_val {id c me last : Int} {ps : List Peer} (h0 : 0 < c) (h1 : c ≤ last) : hasQ id c me last ps = decide (c ≤ valQ me last ps id) := by
  rw [hasQ, valQ]
  split
  · simp
  · rw [show gotP id ps = ps.foldl (fun g p => if p.id = id then max g p.mtch else g) 0 from rfl]
    have h2 := gotP_iff id (c := c) ps 0
    have h3 : decide (c ≤ 0) = false := by simp; omega
    rw [h3, Bool.or_false, Bool.eq_iff_iff, List.any_eq_true]
    simp only [decide_eq_true_eq, Bool.and_eq_true, ge_iff_le]
    constructor
    · rintro ⟨p, hp, h⟩
      have := h2.2 (.inr ⟨p, hp, h⟩)
      omega
    · intro h
      rcases h2.1 (by omega) with h | h
      · omega
      · exact h

theorem fold_best {last M : Int} (hM : M ≤ last) {f : Int → Int → Int} (hf : ∀ b c, 0 ≤ b → f b c = if c ≤ b ∨ last < c then b else if c ≤ M then c else b) : ∀ (l : List Int) (b : Int), 0 ≤ b → b ≤ M →
    b ≤ l.foldl f b ∧ l.foldl f b ≤ M ∧ ∀ c ∈ l, c ≤ M → c ≤ l.foldl f b
  | [], b, h0, h1 => ⟨Int.le_refl _, h1, by simp⟩
  | c :: r, b, h0, h1 => by
    rw [List.foldl_cons]
    have hb : b ≤ f b c ∧ f b c ≤ M ∧ (c ≤ M → c ≤ f b c) := by
      rw [hf b c h0]
      split
      · exact ⟨Int.le_refl _, h1, fun h => by omega⟩
      · split
        · exact ⟨by omega, by assumption, fun _ => Int.le_refl _⟩
        · exact ⟨Int.le_refl _, h1, fun h => by omega⟩
    obtain ⟨i1, i2, i3⟩ := fold_best hM hf r (f b c) (by omega) hb.2.1
    refine ⟨by omega, i2, fun c' hc' hle => ?_⟩
    rcases List.mem_cons.1 hc' with rfl | hc'
    · have := hb.2.2 hle; omega
    · exact i3 c' hc' hle

theorem sure_law (vs : List Int) (me last : Int) (ps : List Peer) : sureQ vs me last ps = want vs me last ps := by
  rw [sureQ, want, refSure]
  by_cases hr : right vs = true
  · by_cases hl : 0 ≤ last
    · rw [if_pos ⟨hr, hl⟩, if_pos hl, if_pos hr]
      have h1 : 1 ≤ vs.length := by simp [right] at hr; omega
      have hlen : (sorted (vs.map (valQ me last ps))).length = vs.length := by simp [sorted]
      have hk : (vs.length - 1) / 2 < (sorted (vs.map (valQ me last ps))).length := by omega
      have hget : (sorted (vs.map (valQ me last ps))).getD ((vs.length - 1) / 2) 0 = (sorted (vs.map (valQ me last ps)))[(vs.length - 1) / 2] := by simp [List.getD, hk]
      rw [hget]
      have hmem : (sorted (vs.map (valQ me last ps)))[(vs.length - 1) / 2] ∈ vs.map (valQ me last ps) := (sorted_perm _).mem_iff.1 (List.getElem_mem hk)
      have hhi := fun c => countP_hi (sorted_le (vs.map (valQ me last ps))) hk (c := c)
      have hlo := fun c => countP_lo (sorted_le (vs.map (valQ me last ps))) hk (c := c)
      generalize (sorted (vs.map (valQ me last ps)))[(vs.length - 1) / 2] = M at hmem hhi hlo ⊢
      rw [hlen] at hhi hlo
      have hcnt : ∀ c, 0 < c → c ≤ last → cntQ vs c me last ps = (sorted (vs.map (valQ me last ps))).countP (fun x => decide (c ≤ x)) := fun c h0 h1 => by
        rw [(sorted_perm _).countP_eq, List.countP_map, cntQ]
        exact List.countP_congr fun id _ => by rw [has_val h0 h1]; rfl
      obtain ⟨id, hid, hv⟩ := List.mem_map.1 hmem
      have hg0 := gotP_ge id ps ps 0 (Int.le_refl _)
      have hMl : M ≤ last := by rw [← hv, valQ]; omega
      have hM0 : 0 ≤ M := by rw [← hv, valQ, gotP]; split <;> omega
      obtain ⟨f1, f2, f3⟩ := fold_best hMl (f := betterQ vs me last ps) (fun b c hb => by
        rw [betterQ]
        by_cases hc : c ≤ b ∨ last < c
        · rw [if_pos hc, if_pos hc]
        · rw [if_neg hc, if_neg hc, hcnt c (by omega) (by omega)]
          by_cases hcM : c ≤ M
          · rw [if_pos hcM, if_pos]; have := hhi c hcM; omega
          · rw [if_neg hcM, if_neg]; have := hlo c (by omega); omega) (cands last ps) 0 (Int.le_refl _) hM0
      by_cases hz : M = 0
      · omega
      · have : M ∈ cands last ps := by
          rw [cands]
          rw [valQ] at hv
          by_cases hml : M = last
          · rw [hml]; exact List.mem_cons_self
          · refine List.mem_cons_of_mem _ ?_
            rcases gotP_mem id ps 0 with h | ⟨p, hp, h⟩
            · exfalso; rw [gotP, h] at hv; split at hv <;> omega
            · refine List.mem_map.2 ⟨p, hp, ?_⟩
              rw [gotP, h] at hv; split at hv <;> omega
        have := f3 M this (Int.le_refl _)
        omega
    · rw [if_neg (by omega), if_neg hl]
  · rw [if_neg (fun h => hr h.1)]
    split <;> simp [hr]

end Go.Abs
