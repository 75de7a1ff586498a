/- Walks: what a leader sends. No conditions. -/
import Derived.Test.YtninaiooagfjfaaGreatDoorK36
set_option linter.unusedVariables false
set_option linter.unusedSimpArgs false
set_option maxRecDepth 20000
namespace Go.Abs
open Go Go.RowKit Go.Proofs

def peerL (p : Peer) : List V := [.d (i64 p.id), .d (i64 p.next), .d (i64 p.mtch)]
attribute [go_sem] peerL
def sendF (n : Node) (p : Peer) : Msg := if p.next ≤ n.hard.log.base then
    { kind := 5, src := n.id, dst := p.id, term := n.hard.term, ok := false, index := n.hard.log.base, lterm := n.hard.log.bterm, recs := [], commit := 0, snap := n.hard.snap, voters := n.hard.voters }
  else { kind := 3, src := n.id, dst := p.id, term := n.hard.term, ok := false, index := p.next - 1, lterm := (termF n.hard.log (p.next - 1)).1, recs := behindF n.hard.log (p.next - 1), commit := n.commit, snap := ⟨⟨[]⟩⟩, voters := [] }
def oneR (n : Node) (p : Peer) : Msg := if p.next ≤ n.hard.log.base then
    { kind := 5, src := n.id, dst := p.id, term := n.hard.term, ok := false, index := n.hard.log.base, lterm := n.hard.log.bterm, recs := [], commit := 0, snap := n.hard.snap, voters := n.hard.voters }
  else { kind := 3, src := n.id, dst := p.id, term := n.hard.term, ok := false, index := p.next - 1, lterm := term15 n.hard.log (p.next - 1), recs := behindR n.hard.log (p.next - 1), commit := n.commit, snap := ⟨⟨[]⟩⟩, voters := [] }
theorem pAt_get {l : List Peer} {j : Nat} (h : j < l.length) : pAt l j = l[j] := by simp [pAt, List.getD, h]
theorem pAt_mem {l : List Peer} {j : Nat} (h : j < l.length) : pAt l j ∈ l := by rw [pAt_get h]; exact List.getElem_mem h
theorem msgs_next {f : Peer → Msg} {l : List Peer} {j : Nat} (h : j < l.length) : ((l.take (j + 1)).map f).map encMsg = ((l.take j).map f).map encMsg ++ [[.lit (.int .i64 (f (pAt l j)).kind), .lit (.int .i64 (f (pAt l j)).src), .lit (.int .i64 (f (pAt l j)).dst), .lit (.int .i64 (f (pAt l j)).term), .lit (.bool (f (pAt l j)).ok), .lit (.int .i64 (f (pAt l j)).index), .lit (.int .i64 (f (pAt l j)).lterm), .lst ((f (pAt l j)).recs.map encRec), .lit (.int .i64 (f (pAt l j)).commit), .lit (.string (f (pAt l j)).snap), .lst ((f (pAt l j)).voters.map encI)]] := by
  rw [List.take_succ_eq_append_getElem h, List.map_append, List.map_append, pAt_get h]; rfl
theorem cb70 : callB Tryz.prog 70 = true := by kernel_rfl
theorem f70_walk (n : Node) (p : Peer) (hs : shaped n.hard = true) (hp : -1000000000000 ≤ p.next ∧ p.next ≤ 1000000000000) : CallsA Tryz.prog 70 [.agg (nodeV n), .agg (peerL p)] [] (.agg (msgV (sendF n p))) [] := by
  have hpt := shaped_parts hs
  refine callsW_of (fn := Tryz.f70) [.cell 4 33] Tryz.func70 rfl rfl (by show 2 ≤ 60; omega) ?_
  refine wpA_reg [2, 3, 4] [] rfl (by simp only [go_sem, Nat.reduceBEq, Nat.reduceAdd, Nat.reduceEqDiff, Nat.reduceLeDiff, Nat.reduceLT, Nat.reduceMul]; with_reducible rfl) (by first | trivial | omega | (simp +contextual [inI64] <;> omega)) ?_
  refine wpA_reg [2, 3, 4, 5] [] rfl (by simp only [go_sem, Nat.reduceBEq, Nat.reduceAdd, Nat.reduceEqDiff, Nat.reduceLeDiff, Nat.reduceLT, Nat.reduceMul]; with_reducible rfl) (by first | trivial | omega | (simp +contextual [inI64] <;> omega)) ?_
  refine wpA_reg [2, 3, 4, 5, 6] [] rfl (by simp only [go_sem, Nat.reduceBEq, Nat.reduceAdd, Nat.reduceEqDiff, Nat.reduceLeDiff, Nat.reduceLT, Nat.reduceMul]; with_reducible rfl) (by first | trivial | omega | (simp +contextual [inI64] <;> omega)) ?_
  refine wpA_seq ?_
  refine wpA_reg [2, 4, 5, 6, 25] [] rfl (by simp only [go_sem, Nat.reduceBEq, Nat.reduceAdd, Nat.reduceEqDiff, Nat.reduceLeDiff, Nat.reduceLT, Nat.reduceMul]; with_reducible rfl) (by first | trivial | omega | (simp +contextual [inI64] <;> omega)) ?_
  refine wpA_cond rfl (fun hd => ?_) (fun hd => ?_)
  · have h0 := hd
    refine wpA_regD [[5], [26], [5], [28], [2], [30], [31], [2], [33], [34], [35], [6], [37], [6], [27, 38], [6], [29, 39], [6], [32, 40], [6], [36, 41]] [4, 6] [useAt [] (f60_walk n.hard.voters (by omega)) (id rfl) (id rfl) cb60] mx rfl (by simp only [go_sem, Nat.reduceBEq, Nat.reduceAdd, Nat.reduceEqDiff, Nat.reduceLeDiff, Nat.reduceLT, Nat.reduceMul]; with_reducible rfl) (by kernel_rfl) (by first | trivial | omega | (simp +contextual [inI64] <;> omega)) ?_
    refine wpA_reg [4] [] rfl (by simp only [go_sem, Nat.reduceBEq, Nat.reduceAdd, Nat.reduceEqDiff, Nat.reduceLeDiff, Nat.reduceLT, Nat.reduceMul]; with_reducible rfl) (by first | trivial | omega | (simp +contextual [inI64] <;> omega)) ?_
    refine wpA_ret (tR ?_)
    refine endL (l := [.agg (msgV (sendF n p))]) [] (.inr rfl) (by simp only [go_sem, Nat.reduceBEq, Nat.reduceAdd, Nat.reduceEqDiff, Nat.reduceLeDiff, Nat.reduceLT, Nat.reduceMul]; with_reducible rfl) trivial (by simp) trivial (by simp only [go_sem, Nat.reduceBEq, Nat.reduceAdd, Nat.reduceEqDiff, Nat.reduceLeDiff, Nat.reduceLT, Nat.reduceMul]; simp [snapL, snap, leL, le, leD, msgV, recs, ints, i64, str, boo, sendF, of_decide_eq_true h0]) ?_
    rfl
  · have h0 := hd
    refine wpA_skip ?_
    refine tN ?_
    refine wpA_reg [2, 4, 5, 6] [usePure (f22_walk n.hard.log (p.next - 1)) rfl cb22] rfl (by simp only [go_sem, Nat.reduceBEq, Nat.reduceAdd, Nat.reduceEqDiff, Nat.reduceLeDiff, Nat.reduceLT, Nat.reduceMul]; with_reducible rfl) (by first | trivial | omega | (simp +contextual [inI64] <;> omega)) ?_
    refine wpA_regD [[5], [6], [52], [51, 53], [2], [55], [6], [54, 57], [6], [56, 58]] [4, 6] [usePure (f90_walk n.hard.log (p.next - 1) (shaped_log hs)) rfl cb90] mx rfl (by simp only [go_sem, Nat.reduceBEq, Nat.reduceAdd, Nat.reduceEqDiff, Nat.reduceLeDiff, Nat.reduceLT, Nat.reduceMul]; with_reducible rfl) (by kernel_rfl) (by first | trivial | omega | (simp +contextual [inI64] <;> omega)) ?_
    refine wpA_reg [4] [] rfl (by simp only [go_sem, Nat.reduceBEq, Nat.reduceAdd, Nat.reduceEqDiff, Nat.reduceLeDiff, Nat.reduceLT, Nat.reduceMul]; with_reducible rfl) (by first | trivial | omega | (simp +contextual [inI64] <;> omega)) ?_
    refine wpA_ret ?_
    refine endL (l := [.agg (msgV (sendF n p))]) [] (.inr rfl) (by simp only [go_sem, Nat.reduceBEq, Nat.reduceAdd, Nat.reduceEqDiff, Nat.reduceLeDiff, Nat.reduceLT, Nat.reduceMul]; with_reducible rfl) trivial (by simp) trivial (by simp only [go_sem, Nat.reduceBEq, Nat.reduceAdd, Nat.reduceEqDiff, Nat.reduceLeDiff, Nat.reduceLT, Nat.reduceMul]; simp [snapL, snap, leL, le, leD, msgV, recs, ints, i64, str, boo, sendF, of_decide_eq_false h0]) ?_
    rfl

theorem cb74 : callB Tryz.prog 74 = true := by kernel_rfl
theorem f74_walk (n : Node) (p : Peer) (hs : shaped n.hard = true) (hp : -1000000000 ≤ p.next ∧ p.next ≤ 3000000000) : CallsA Tryz.prog 74 [.agg (nodeV n), .agg (peerL p)] [] (.agg (msgV (oneR n p))) [] := by
  have hpt := shaped_parts hs
  refine callsW_of (fn := Tryz.f74) [.cell 4 33] Tryz.func74 rfl rfl (by show 2 ≤ 57; omega) ?_
  refine wpA_reg [2, 3, 4] [] rfl (by simp only [go_sem, Nat.reduceBEq, Nat.reduceAdd, Nat.reduceEqDiff, Nat.reduceLeDiff, Nat.reduceLT, Nat.reduceMul]; with_reducible rfl) (by first | trivial | omega | (simp +contextual [inI64] <;> omega)) ?_
  refine wpA_reg [2, 3, 4, 5] [] rfl (by simp only [go_sem, Nat.reduceBEq, Nat.reduceAdd, Nat.reduceEqDiff, Nat.reduceLeDiff, Nat.reduceLT, Nat.reduceMul]; with_reducible rfl) (by first | trivial | omega | (simp +contextual [inI64] <;> omega)) ?_
  refine wpA_reg [2, 3, 4, 5, 6] [] rfl (by simp only [go_sem, Nat.reduceBEq, Nat.reduceAdd, Nat.reduceEqDiff, Nat.reduceLeDiff, Nat.reduceLT, Nat.reduceMul]; with_reducible rfl) (by first | trivial | omega | (simp +contextual [inI64] <;> omega)) ?_
  refine wpA_seq ?_
  refine wpA_reg [2, 3, 4, 5, 6, 22] [] rfl (by simp only [go_sem, Nat.reduceBEq, Nat.reduceAdd, Nat.reduceEqDiff, Nat.reduceLeDiff, Nat.reduceLT, Nat.reduceMul]; with_reducible rfl) (by first | trivial | omega | (simp +contextual [inI64] <;> omega)) ?_
  refine wpA_cond rfl (fun hd => ?_) (fun hd => ?_)
  · have h0 := hd
    refine wpA_reg [2, 4, 5, 6] [] rfl (by simp only [go_sem, Nat.reduceBEq, Nat.reduceAdd, Nat.reduceEqDiff, Nat.reduceLeDiff, Nat.reduceLT, Nat.reduceMul]; with_reducible rfl) (by first | trivial | omega | (simp +contextual [inI64] <;> omega)) ?_
    refine wpA_reg [2, 4, 5, 6] [] rfl (by simp only [go_sem, Nat.reduceBEq, Nat.reduceAdd, Nat.reduceEqDiff, Nat.reduceLeDiff, Nat.reduceLT, Nat.reduceMul]; with_reducible rfl) (by first | trivial | omega | (simp +contextual [inI64] <;> omega)) ?_
    refine wpA_reg [2, 4, 5] [] rfl (by simp only [go_sem, Nat.reduceBEq, Nat.reduceAdd, Nat.reduceEqDiff, Nat.reduceLeDiff, Nat.reduceLT, Nat.reduceMul]; with_reducible rfl) (by first | trivial | omega | (simp +contextual [inI64] <;> omega)) ?_
    refine wpA_reg [2, 4, 5] [] rfl (by simp only [go_sem, Nat.reduceBEq, Nat.reduceAdd, Nat.reduceEqDiff, Nat.reduceLeDiff, Nat.reduceLT, Nat.reduceMul]; with_reducible rfl) (by first | trivial | omega | (simp +contextual [inI64] <;> omega)) ?_
    refine wpA_reg [4, 5] [] rfl (by simp only [go_sem, Nat.reduceBEq, Nat.reduceAdd, Nat.reduceEqDiff, Nat.reduceLeDiff, Nat.reduceLT, Nat.reduceMul]; with_reducible rfl) (by first | trivial | omega | (simp +contextual [inI64] <;> omega)) ?_
    refine wpA_reg [4] [] rfl (by simp only [go_sem, Nat.reduceBEq, Nat.reduceAdd, Nat.reduceEqDiff, Nat.reduceLeDiff, Nat.reduceLT, Nat.reduceMul]; with_reducible rfl) (by first | trivial | omega | (simp +contextual [inI64] <;> omega)) ?_
    refine wpA_ret (tR ?_)
    refine endL (l := [.agg (msgV (oneR n p))]) [] (.inr rfl) (by simp only [go_sem, Nat.reduceBEq, Nat.reduceAdd, Nat.reduceEqDiff, Nat.reduceLeDiff, Nat.reduceLT, Nat.reduceMul]; with_reducible rfl) trivial (by simp) trivial (by simp only [go_sem, Nat.reduceBEq, Nat.reduceAdd, Nat.reduceEqDiff, Nat.reduceLeDiff, Nat.reduceLT, Nat.reduceMul]; simp [snapL, snap, leL, le, leD, msgV, recs, ints, i64, str, boo, oneR, of_decide_eq_true h0]) ?_
    rfl
  · have h0 := hd
    refine wpA_skip ?_
    refine tN ?_
    refine wpA_reg [2, 4, 5, 6] [] rfl (by simp only [go_sem, Nat.reduceBEq, Nat.reduceAdd, Nat.reduceEqDiff, Nat.reduceLeDiff, Nat.reduceLT, Nat.reduceMul]; with_reducible rfl) (by first | trivial | omega | (simp +contextual [inI64] <;> omega)) ?_
    refine wpA_reg [2, 4, 5, 6] [usePure (f42_walk n.hard.log (p.next - 1) (logR_small (shaped_log hs))) rfl cb42] rfl (by simp only [go_sem, Nat.reduceBEq, Nat.reduceAdd, Nat.reduceEqDiff, Nat.reduceLeDiff, Nat.reduceLT, Nat.reduceMul]; with_reducible rfl) (by first | trivial | omega | (simp +contextual [inI64] <;> omega)) ?_
    refine wpA_reg [2, 4, 5] [usePure (f98_walk n.hard.log (p.next - 1) (logR_small (shaped_log hs)) (by omega)) rfl cb98] rfl (by simp only [go_sem, Nat.reduceBEq, Nat.reduceAdd, Nat.reduceEqDiff, Nat.reduceLeDiff, Nat.reduceLT, Nat.reduceMul]; with_reducible rfl) (by first | trivial | omega | (simp +contextual [inI64] <;> omega)) ?_
    refine wpA_reg [4, 5] [] rfl (by simp only [go_sem, Nat.reduceBEq, Nat.reduceAdd, Nat.reduceEqDiff, Nat.reduceLeDiff, Nat.reduceLT, Nat.reduceMul]; with_reducible rfl) (by first | trivial | omega | (simp +contextual [inI64] <;> omega)) ?_
    refine wpA_reg [4] [] rfl (by simp only [go_sem, Nat.reduceBEq, Nat.reduceAdd, Nat.reduceEqDiff, Nat.reduceLeDiff, Nat.reduceLT, Nat.reduceMul]; with_reducible rfl) (by first | trivial | omega | (simp +contextual [inI64] <;> omega)) ?_
    refine wpA_ret ?_
    refine endL (l := [.agg (msgV (oneR n p))]) [] (.inr rfl) (by simp only [go_sem, Nat.reduceBEq, Nat.reduceAdd, Nat.reduceEqDiff, Nat.reduceLeDiff, Nat.reduceLT, Nat.reduceMul]; with_reducible rfl) trivial (by simp) trivial (by simp only [go_sem, Nat.reduceBEq, Nat.reduceAdd, Nat.reduceEqDiff, Nat.reduceLeDiff, Nat.reduceLT, Nat.reduceMul]; simp [snapL, snap, leL, le, leD, msgV, recs, ints, i64, str, boo, oneR, of_decide_eq_false h0]) ?_
    rfl

theorem cb29 : callB Tryz.prog 29 = true := by kernel_rfl
theorem f29_walk (n : Node) (hs : shaped n.hard = true) (hpl : n.peers.length ≤ 1000) (hps : ∀ p ∈ n.peers, -1000000000000 ≤ p.next ∧ p.next ≤ 1000000000000) : CallsA Tryz.prog 29 [.agg (nodeV n)] [] (.d (msgs (n.peers.map (sendF n)))) [] := by
  refine callsW_of (fn := Tryz.f29) [.tmp 2] Tryz.func29 rfl rfl (by show 1 ≤ 21; omega) ?_
  refine wpA_reg [1] [] rfl (by simp only [go_sem, Nat.reduceBEq, Nat.reduceAdd, Nat.reduceEqDiff, Nat.reduceLeDiff, Nat.reduceLT, Nat.reduceMul]; with_reducible rfl) (by first | trivial | omega | (simp +contextual [inI64] <;> omega)) ?_
  refine wpA_reg [1, 3] [] rfl (by simp only [go_sem, Nat.reduceBEq, Nat.reduceAdd, Nat.reduceEqDiff, Nat.reduceLeDiff, Nat.reduceLT, Nat.reduceMul]; with_reducible rfl) (by first | trivial | omega | (simp +contextual [inI64] <;> omega)) ?_
  refine wpA_seq ?_
  refine wpA_reg [1, 3, 7, 8, 9] [] rfl (by simp only [go_sem, Nat.reduceBEq, Nat.reduceAdd, Nat.reduceEqDiff, Nat.reduceLeDiff, Nat.reduceLT, Nat.reduceMul]; with_reducible rfl) (by first | trivial | omega | (simp +contextual [inI64] <;> omega)) ?_
  refine wpA_block ?_
  refine wpA_loop (fun j : Nat => ⟨[(1, .ptr 0 0), (3, .own 1), (7, .d (peers n.peers)), (8, .d (i64 n.peers.length)), (9, .d (i64 j))], enum [.var 30 (nodeV n), .row 33 11 (((n.peers.take j).map (sendF n)).map encMsg)] 0, 2⟩) (fun j => j ≤ n.peers.length) (fun j => n.peers.length - j) 0 ((weak_own (k := 3) (e := 33) (sz := 11) rfl).trans (weak_of [0, 7] trivial (by simp) (by simp only [go_sem, Int.natCast_zero, List.take_zero, List.map_nil, Nat.reduceBEq, Nat.reduceAdd, Nat.reduceEqDiff, Nat.reduceLeDiff, Nat.reduceLT, Nat.reduceMul]) (by simp only [go_sem, Int.natCast_zero, List.take_zero, List.map_nil, Nat.reduceBEq, Nat.reduceAdd, Nat.reduceEqDiff, Nat.reduceLeDiff, Nat.reduceLT, Nat.reduceMul]))) (Nat.zero_le _) (fun j hj => ?_)
  refine wpA_reg [1, 3, 7, 8, 9, 10] [] rfl (by simp only [go_sem, Nat.reduceBEq, Nat.reduceAdd, Nat.reduceEqDiff, Nat.reduceLeDiff, Nat.reduceLT, Nat.reduceMul]; with_reducible rfl) (by first | trivial | omega | (simp +contextual [inI64] <;> omega)) ?_
  refine wpA_seq ?_
  refine wpA_cond rfl (fun hc => ?_) (fun hc => ?_)
  · have hc : j < n.peers.length := by simpa using hc
    have hg := peers_getD n.peers hc
    have e : ((j : Int) - 1).toNat = j - 1 := by omega
    have hg2 := peers_getD n.peers (j := j - 1) (by omega)
    have hl := peers_len n.peers
    refine wpA_skip ?_
    refine tN ?_
    refine wpA_seq ?_
    refine wpA_block ?_
    refine wpA_reg [1, 3, 5, 7, 8, 9] [] rfl (by simp only [go_sem, hg, hg2, e, encPeer, Nat.reduceBEq, Nat.reduceAdd, Nat.reduceEqDiff, Nat.reduceLeDiff, Nat.reduceLT, Nat.reduceMul]; with_reducible rfl) (by first | trivial | omega | (simp +contextual [inI64, hl, hc] <;> omega)) ?_
    refine wpA_region [1, 3, 7, 8, 9] [usePure (f70_walk n (pAt n.peers j) hs (hps _ (pAt_mem hc))) rfl cb70] rfl (by simp only [go_sem, hg, hg2, e, encPeer, Nat.reduceBEq, Nat.reduceAdd, Nat.reduceEqDiff, Nat.reduceLeDiff, Nat.reduceLT, Nat.reduceMul]; with_reducible rfl) (by first | trivial | omega | (simp +contextual [inI64, hl, hc] <;> omega)) ?_
    refine bN (tN ?_)
    refine wpA_region [1, 3, 7, 8, 9] [] rfl (by simp only [go_sem, hg, hg2, e, encPeer, Nat.reduceBEq, Nat.reduceAdd, Nat.reduceEqDiff, Nat.reduceLeDiff, Nat.reduceLT, Nat.reduceMul]; with_reducible rfl) (by first | trivial | omega | (simp +contextual [inI64, hl, hc] <;> omega)) ?_
    refine tN ?_
    refine ⟨j + 1, hc, by omega, weak_of [0, 12] trivial (by simp) (by simp only [go_sem, Int.natCast_add, Int.natCast_one, msgs_next (f := sendF n) hc, Nat.reduceBEq, Nat.reduceAdd, Nat.reduceEqDiff, Nat.reduceLeDiff, Nat.reduceLT, Nat.reduceMul]) (by simp only [go_sem, Int.natCast_add, Int.natCast_one, msgs_next (f := sendF n) hc, Nat.reduceBEq, Nat.reduceAdd, Nat.reduceEqDiff, Nat.reduceLeDiff, Nat.reduceLT, Nat.reduceMul])⟩
  · have hc : j = n.peers.length := by simp at hc; omega
    subst hc
    rw [List.take_length]
    refine wpA_exit (tE (tE (bE ?_)))
    refine tN ?_
    refine wpA_reg [2] [] rfl (by simp only [go_sem, Nat.reduceBEq, Nat.reduceAdd, Nat.reduceEqDiff, Nat.reduceLeDiff, Nat.reduceLT, Nat.reduceMul]; with_reducible rfl) (by first | trivial | omega | (simp +contextual [inI64] <;> omega)) ?_
    refine wpA_ret ?_
    refine endD (.inr rfl) (by simp only [go_sem, Nat.reduceBEq, Nat.reduceAdd, Nat.reduceEqDiff, Nat.reduceLeDiff, Nat.reduceLT, Nat.reduceMul]; with_reducible rfl) ?_
    simp only [go_sem, Nat.reduceBEq, Nat.reduceAdd, Nat.reduceEqDiff, Nat.reduceLeDiff, Nat.reduceLT, Nat.reduceMul]

theorem cb47 : callB Tryz.prog 47 = true := by kernel_rfl
theorem f47_walk (n : Node) (hs : shaped n.hard = true) (hpl : n.peers.length ≤ 1000) (hps : ∀ p ∈ n.peers, -1000000000 ≤ p.next ∧ p.next ≤ 3000000000) : CallsA Tryz.prog 47 [.agg (nodeV n)] [] (.d (msgs (n.peers.map (oneR n)))) [] := by
  refine callsW_of (fn := Tryz.f47) [.tmp 2] Tryz.func47 rfl rfl (by show 1 ≤ 24; omega) ?_
  refine wpA_reg [1] [] rfl (by simp only [go_sem, Nat.reduceBEq, Nat.reduceAdd, Nat.reduceEqDiff, Nat.reduceLeDiff, Nat.reduceLT, Nat.reduceMul]; with_reducible rfl) (by first | trivial | omega | (simp +contextual [inI64] <;> omega)) ?_
  refine wpA_reg [1, 3] [] rfl (by simp only [go_sem, Nat.reduceBEq, Nat.reduceAdd, Nat.reduceEqDiff, Nat.reduceLeDiff, Nat.reduceLT, Nat.reduceMul]; with_reducible rfl) (by first | trivial | omega | (simp +contextual [inI64] <;> omega)) ?_
  refine wpA_seq ?_
  refine wpA_reg [1, 3, 9, 10, 11] [] rfl (by simp only [go_sem, Nat.reduceBEq, Nat.reduceAdd, Nat.reduceEqDiff, Nat.reduceLeDiff, Nat.reduceLT, Nat.reduceMul]; with_reducible rfl) (by first | trivial | omega | (simp +contextual [inI64] <;> omega)) ?_
  refine wpA_block ?_
  refine wpA_loop (fun j : Nat => ⟨[(1, .ptr 0 0), (3, .own 1), (9, .d (peers n.peers)), (10, .d (i64 n.peers.length)), (11, .d (i64 j))], enum [.var 30 (nodeV n), .row 33 11 (((n.peers.take j).map (oneR n)).map encMsg)] 0, 2⟩) (fun j => j ≤ n.peers.length) (fun j => n.peers.length - j) 0 (weak_of [0, 2] trivial (by simp) (by simp only [go_sem, Int.natCast_zero, List.take_zero, List.map_nil, Nat.reduceBEq, Nat.reduceAdd, Nat.reduceEqDiff, Nat.reduceLeDiff, Nat.reduceLT, Nat.reduceMul]) (by simp only [go_sem, Int.natCast_zero, List.take_zero, List.map_nil, Nat.reduceBEq, Nat.reduceAdd, Nat.reduceEqDiff, Nat.reduceLeDiff, Nat.reduceLT, Nat.reduceMul])) (Nat.zero_le _) (fun j hj => ?_)
  refine wpA_reg [1, 3, 9, 10, 11, 12] [] rfl (by simp only [go_sem, Nat.reduceBEq, Nat.reduceAdd, Nat.reduceEqDiff, Nat.reduceLeDiff, Nat.reduceLT, Nat.reduceMul]; with_reducible rfl) (by first | trivial | omega | (simp +contextual [inI64] <;> omega)) ?_
  refine wpA_seq ?_
  refine wpA_cond rfl (fun hc => ?_) (fun hc => ?_)
  · have hc : j < n.peers.length := by simpa using hc
    have hg := peers_getD n.peers hc
    have e : ((j : Int) - 1).toNat = j - 1 := by omega
    have hg2 := peers_getD n.peers (j := j - 1) (by omega)
    have hl := peers_len n.peers
    refine wpA_skip ?_
    refine tN ?_
    refine wpA_seq ?_
    refine wpA_block ?_
    refine wpA_reg [1, 3, 5, 9, 10, 11] [] rfl (by simp only [go_sem, hg, hg2, e, encPeer, Nat.reduceBEq, Nat.reduceAdd, Nat.reduceEqDiff, Nat.reduceLeDiff, Nat.reduceLT, Nat.reduceMul]; with_reducible rfl) (by first | trivial | omega | (simp +contextual [inI64, hl, hc] <;> omega)) ?_
    refine wpA_reg [1, 3, 6, 9, 10, 11] [usePure (f74_walk n (pAt n.peers j) hs (hps _ (pAt_mem hc))) rfl cb74] rfl (by simp only [go_sem, hg, hg2, e, encPeer, Nat.reduceBEq, Nat.reduceAdd, Nat.reduceEqDiff, Nat.reduceLeDiff, Nat.reduceLT, Nat.reduceMul]; with_reducible rfl) (by first | trivial | omega | (simp +contextual [inI64, hl, hc] <;> omega)) ?_
    refine wpA_region [1, 3, 9, 10, 11] [] rfl (by simp only [go_sem, hg, hg2, e, encPeer, Nat.reduceBEq, Nat.reduceAdd, Nat.reduceEqDiff, Nat.reduceLeDiff, Nat.reduceLT, Nat.reduceMul]; with_reducible rfl) (by first | trivial | omega | (simp +contextual [inI64, hl, hc] <;> omega)) ?_
    refine bN (tN ?_)
    refine wpA_region [1, 3, 9, 10, 11] [] rfl (by simp only [go_sem, hg, hg2, e, encPeer, Nat.reduceBEq, Nat.reduceAdd, Nat.reduceEqDiff, Nat.reduceLeDiff, Nat.reduceLT, Nat.reduceMul]; with_reducible rfl) (by first | trivial | omega | (simp +contextual [inI64, hl, hc] <;> omega)) ?_
    refine tN ?_
    refine ⟨j + 1, hc, by omega, weak_of [0, 15] trivial (by simp) (by simp only [go_sem, Int.natCast_add, Int.natCast_one, msgs_next (f := oneR n) hc, Nat.reduceBEq, Nat.reduceAdd, Nat.reduceEqDiff, Nat.reduceLeDiff, Nat.reduceLT, Nat.reduceMul]) (by simp only [go_sem, Int.natCast_add, Int.natCast_one, msgs_next (f := oneR n) hc, Nat.reduceBEq, Nat.reduceAdd, Nat.reduceEqDiff, Nat.reduceLeDiff, Nat.reduceLT, Nat.reduceMul])⟩
  · have hc : j = n.peers.length := by simp at hc; omega
    subst hc
    rw [List.take_length]
    refine wpA_exit (tE (tE (bE ?_)))
    refine tN ?_
    refine wpA_reg [2] [] rfl (by simp only [go_sem, Nat.reduceBEq, Nat.reduceAdd, Nat.reduceEqDiff, Nat.reduceLeDiff, Nat.reduceLT, Nat.reduceMul]; with_reducible rfl) (by first | trivial | omega | (simp +contextual [inI64] <;> omega)) ?_
    refine wpA_ret ?_
    refine endD (.inr rfl) (by simp only [go_sem, Nat.reduceBEq, Nat.reduceAdd, Nat.reduceEqDiff, Nat.reduceLeDiff, Nat.reduceLT, Nat.reduceMul]; with_reducible rfl) ?_
    simp only [go_sem, Nat.reduceBEq, Nat.reduceAdd, Nat.reduceEqDiff, Nat.reduceLeDiff, Nat.reduceLT, Nat.reduceMul]

end Go.Abs
