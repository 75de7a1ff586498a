/- Walks: what the reference makes of a record that a node is given. No conditions. -/
import Derived.Test.YtninaiooagfjfaaGreatDoorK43
set_option linter.unusedVariables false
set_option linter.unusedSimpArgs false
set_option maxRecDepth 20000
namespace Go.Abs
open Go Go.RowKit Go.Proofs

theorem cb10 : callB Tryz.prog 10 = true := by kernel_rfl
theorem f10_walk (n : Node) (kind : Int) (text : ByteArray) (hE : electR n = true) : CallsA Tryz.prog 10 [.agg (nodeV n), .d (i64 kind), .d (str text)] [] (addV (addR18 n kind text)) [] := by
  have hs := electR_shaped hE
  have hV := votersOf_few hs
  have hR : n.hard.log.recs.length ≤ 200 := (shaped_parts hs).2.2.2.2.1
  refine callsW_of (fn := Tryz.f10) [.cell 6 30, .tmp 7, .tmp 8, .tmp 9] Tryz.func10 rfl rfl (by show 3 ≤ 155; omega) ?_
  refine wpA_reg [1, 2, 3, 6] [] rfl (by simp only [go_sem, Nat.reduceBEq, Nat.reduceAdd, Nat.reduceEqDiff, Nat.reduceLeDiff, Nat.reduceLT, Nat.reduceMul]; with_reducible rfl) (by first | trivial | omega | (simp +contextual [inI64] <;> omega)) ?_
  refine wpA_reg [1, 2, 3, 6, 10] [] rfl (by simp only [go_sem, Nat.reduceBEq, Nat.reduceAdd, Nat.reduceEqDiff, Nat.reduceLeDiff, Nat.reduceLT, Nat.reduceMul]; with_reducible rfl) (by first | trivial | omega | (simp +contextual [inI64] <;> omega)) ?_
  refine wpA_seq ?_
  refine wpA_reg [1, 2, 3, 6, 10, 32] [] rfl (by simp only [go_sem, Nat.reduceBEq, Nat.reduceAdd, Nat.reduceEqDiff, Nat.reduceLeDiff, Nat.reduceLT, Nat.reduceMul]; with_reducible rfl) (by first | trivial | omega | (simp +contextual [inI64] <;> omega)) ?_
  refine wpA_cond rfl (fun hd => ?_) (fun hd => ?_)
  · have h0 := hd
    refine wpA_reg [6, 7, 8, 9] [] rfl (by simp only [go_sem, Nat.reduceBEq, Nat.reduceAdd, Nat.reduceEqDiff, Nat.reduceLeDiff, Nat.reduceLT, Nat.reduceMul]; with_reducible rfl) (by first | trivial | omega | (simp +contextual [inI64] <;> omega)) ?_
    refine wpA_ret (tR ?_)
    refine endL (l := [.agg (nodeV node0), .d (msgs []), .d (i64 0), .d (i64 1)]) [] (.inr rfl) (by simp only [go_sem, Nat.reduceBEq, Nat.reduceAdd, Nat.reduceEqDiff, Nat.reduceLeDiff, Nat.reduceLT, Nat.reduceMul]; with_reducible rfl) trivial (by simp) trivial (by simp only [go_sem, Nat.reduceBEq, Nat.reduceAdd, Nat.reduceEqDiff, Nat.reduceLeDiff, Nat.reduceLT, Nat.reduceMul]; simp [snapL, snap, leL, le, leD, recs, ints, peers, msgs, i64, str, boo, node0]) ?_
    rw [addR18, if_pos (show bad10 kind text = true from h0)]
    rfl
  · have h0 := hd
    have hB : bad10 kind text = false := h0
    have nB : ¬ bad10 kind text = true := by rw [hB]; simp
    have hT : text.size ≤ 8192 := by simp [bad10] at hB; omega
    have hL0 := l39_len text
    refine wpA_skip ?_
    refine tN ?_
    refine wpA_seq ?_
    refine wpA_reg [1, 2, 3, 6, 10, 36] [] rfl (by simp only [go_sem, Nat.reduceBEq, Nat.reduceAdd, Nat.reduceEqDiff, Nat.reduceLeDiff, Nat.reduceLT, Nat.reduceMul]; with_reducible rfl) (by first | trivial | omega | (simp +contextual [inI64] <;> omega)) ?_
    refine wpA_cond rfl (fun hd => ?_) (fun hd => ?_)
    · have h1 := hd
      refine wpA_reg [6, 7, 8, 9] [] rfl (by simp only [go_sem, Nat.reduceBEq, Nat.reduceAdd, Nat.reduceEqDiff, Nat.reduceLeDiff, Nat.reduceLT, Nat.reduceMul]; with_reducible rfl) (by first | trivial | omega | (simp +contextual [inI64] <;> omega)) ?_
      refine wpA_ret (tR ?_)
      refine endL (l := [.agg (nodeV node0), .d (msgs []), .d (i64 0), .d (i64 171)]) [] (.inr rfl) (by simp only [go_sem, Nat.reduceBEq, Nat.reduceAdd, Nat.reduceEqDiff, Nat.reduceLeDiff, Nat.reduceLT, Nat.reduceMul]; with_reducible rfl) trivial (by simp) trivial (by simp only [go_sem, Nat.reduceBEq, Nat.reduceAdd, Nat.reduceEqDiff, Nat.reduceLeDiff, Nat.reduceLT, Nat.reduceMul]; simp [snapL, snap, leL, le, leD, recs, ints, peers, msgs, i64, str, boo, node0]) ?_
      rw [addR18, if_neg nB, if_pos (of_decide_eq_true h1)]
      rfl
    · have h1 := hd
      have nR : ¬ n.role ≠ 2 := of_decide_eq_false h1
      refine wpA_skip ?_
      refine tN ?_
      refine wpA_reg [1, 2, 3, 6, 10, 11, 12] [usePure (f38_walk n.hard hs) rfl cb38] rfl (by simp only [go_sem, Nat.reduceBEq, Nat.reduceAdd, Nat.reduceEqDiff, Nat.reduceLeDiff, Nat.reduceLT, Nat.reduceMul]; with_reducible rfl) (by first | trivial | omega | (simp +contextual [inI64] <;> omega)) ?_
      refine wpA_reg [1, 2, 3, 6, 10, 11, 12, 13, 14] [usePure (f39_walk text (by omega)) rfl cb39] rfl (by simp only [go_sem, Nat.reduceBEq, Nat.reduceAdd, Nat.reduceEqDiff, Nat.reduceLeDiff, Nat.reduceLT, Nat.reduceMul]; with_reducible rfl) (by first | trivial | omega | (simp +contextual [inI64] <;> omega)) ?_
      refine wpA_seq ?_
      refine wpA_regD [[1], [49], [50], [14, 51], [51, 52], [51, 53], [11, 54], [13, 54], [54, 55, 56], [54, 57], [51, 54, 58], [51, 59], [13, 60], [3, 60], [60, 62], [60, 61, 63], [60, 64], [51, 60, 65], [51, 66], [12, 67], [3, 67], [67, 69], [67, 68, 70], [51, 67, 71], [51, 72], [3, 73], [73, 74], [73, 75], [3, 73], [73, 77], [73, 76, 78], [3, 73], [73, 80], [73, 81], [73, 79, 82], [51, 73, 83], [51, 84]] [1, 2, 3, 6, 10, 13, 85] [usePure (f40_walk (votersOf n.hard).1 (l39 text) (by omega) (by omega)) rfl cb40, usePure (f41_walk (l39 text) n.id) rfl cb41, usePure (f42_walk n.hard.log n.commit (logR_small (shaped_log hs))) rfl cb42] mx rfl (by simp only [go_sem, Nat.reduceBEq, Nat.reduceAdd, Nat.reduceEqDiff, Nat.reduceLeDiff, Nat.reduceLT, Nat.reduceMul]; with_reducible rfl) (by kernel_rfl) (by first | trivial | omega | (simp +contextual [inI64] <;> omega)) ?_
      refine wpA_cond rfl (fun hd => ?_) (fun hd => ?_)
      · have h2 := hd
        refine wpA_reg [6, 7, 8, 9] [] rfl (by simp only [go_sem, Nat.reduceBEq, Nat.reduceAdd, Nat.reduceEqDiff, Nat.reduceLeDiff, Nat.reduceLT, Nat.reduceMul]; with_reducible rfl) (by first | trivial | omega | (simp +contextual [inI64] <;> omega)) ?_
        refine wpA_ret (tR ?_)
        refine endL (l := [.agg (nodeV node0), .d (msgs []), .d (i64 0), .d (i64 160)]) [] (.inr rfl) (by simp only [go_sem, Nat.reduceBEq, Nat.reduceAdd, Nat.reduceEqDiff, Nat.reduceLeDiff, Nat.reduceLT, Nat.reduceMul]; with_reducible rfl) trivial (by simp) trivial (by simp only [go_sem, Nat.reduceBEq, Nat.reduceAdd, Nat.reduceEqDiff, Nat.reduceLeDiff, Nat.reduceLT, Nat.reduceMul]; simp [snapL, snap, leL, le, leD, recs, ints, peers, msgs, i64, str, boo, node0]) ?_
        rw [addR18, if_neg nB, if_neg nR, if_pos (show conf10 n kind text = true from h2)]
        rfl
      · have h2 := hd
        have nC : ¬ conf10 n kind text = true := by rw [show conf10 n kind text = false from h2]; simp
        refine wpA_skip ?_
        refine tN ?_
        refine wpA_reg [1, 3, 6, 10, 13, 15, 16] [usePure (f43_B n kind text hR) rfl cb43] rfl (by simp only [go_sem, Nat.reduceBEq, Nat.reduceAdd, Nat.reduceEqDiff, Nat.reduceLeDiff, Nat.reduceLT, Nat.reduceMul]; with_reducible rfl) (by first | trivial | omega | (simp +contextual [inI64] <;> omega)) ?_
        refine wpA_seq ?_
        refine wpA_reg [1, 3, 6, 10, 13, 15, 99] [] rfl (by simp only [go_sem, Nat.reduceBEq, Nat.reduceAdd, Nat.reduceEqDiff, Nat.reduceLeDiff, Nat.reduceLT, Nat.reduceMul]; with_reducible rfl) (by first | trivial | omega | (simp +contextual [inI64] <;> omega)) ?_
        refine wpA_cond rfl (fun hd => ?_) (fun hd => ?_)
        · have h3 := hd
          refine wpA_reg [6, 7, 8, 9] [] rfl (by simp only [go_sem, Nat.reduceBEq, Nat.reduceAdd, Nat.reduceEqDiff, Nat.reduceLeDiff, Nat.reduceLT, Nat.reduceMul]; with_reducible rfl) (by first | trivial | omega | (simp +contextual [inI64] <;> omega)) ?_
          refine wpA_ret (tR ?_)
          refine endL (l := [.agg (nodeV node0), .d (msgs []), .d (i64 0), .d (i64 130)]) [] (.inr rfl) (by simp only [go_sem, Nat.reduceBEq, Nat.reduceAdd, Nat.reduceEqDiff, Nat.reduceLeDiff, Nat.reduceLT, Nat.reduceMul]; with_reducible rfl) trivial (by simp) trivial (by simp only [go_sem, Nat.reduceBEq, Nat.reduceAdd, Nat.reduceEqDiff, Nat.reduceLeDiff, Nat.reduceLT, Nat.reduceMul]; simp [snapL, snap, leL, le, leD, recs, ints, peers, msgs, i64, str, boo, node0]) ?_
          rw [addR18, if_neg nB, if_neg nR, if_neg nC, if_pos (by simpa using h3)]
          rfl
        · have h3 := hd
          have hW : walR (newF n kind text).hard = true := by simpa using h3
          refine wpA_skip ?_
          refine tN ?_
          refine wpA_seq ?_
          refine wpA_reg [3, 6, 13, 15, 102] [] rfl (by simp only [go_sem, Nat.reduceBEq, Nat.reduceAdd, Nat.reduceEqDiff, Nat.reduceLeDiff, Nat.reduceLT, Nat.reduceMul]; with_reducible rfl) (by first | trivial | omega | (simp +contextual [inI64] <;> omega)) ?_
          refine wpA_cond rfl (fun hd => ?_) (fun hd => ?_)
          · have h4 := hd
            have k2 := of_decide_eq_true h4
            have hb39 := conf10_right k2 h2
            have hL := l39_few hb39
            have hA0 := able_new hE hW
            have hA := able_turnR (l := l39 text) hE hW (by omega)
            refine wpA_reg [3, 6, 13, 15, 17] [] rfl (by simp only [go_sem, Nat.reduceBEq, Nat.reduceAdd, Nat.reduceEqDiff, Nat.reduceLeDiff, Nat.reduceLT, Nat.reduceMul]; with_reducible rfl) (by first | trivial | omega | (simp +contextual [inI64] <;> omega)) ?_
            refine wpA_seq ?_
            refine wpA_reg [3, 6, 15, 17, 104, 105, 106] [] rfl (by simp only [go_sem, Nat.reduceBEq, Nat.reduceAdd, Nat.reduceEqDiff, Nat.reduceLeDiff, Nat.reduceLT, Nat.reduceMul]; with_reducible rfl) (by first | trivial | omega | (simp +contextual [inI64] <;> omega)) ?_
            refine wpA_block ?_
            refine wpA_loop (fun j : Nat => ⟨[(3, .ptr 0 0), (6, .ptr 1 0), (15, .ptr 2 0), (17, .own 3), (104, .d (ints (l39 text))), (105, .d (i64 ((l39 text).length))), (106, .d (i64 j))], enum [.var 30 (nodeV n), .var 30 [.d (i64 0), .d (i64 0), .d (i64 0), .d (i64 0), .d (i64 0), .d (.lit (.slice none 0 0)), .d (.lit (.string ⟨⟨[]⟩⟩)), .d (.lit (.slice none 0 0)), .d (i64 0), .d (i64 0), .d (i64 0), .d (i64 0), .d (.lit (.slice none 0 0)), .d (.lit (.slice none 0 0))], .var 30 (nodeV (newF n kind text)), .row 70 3 ((rP (l39 text) n.id (lastP (newF n kind text).hard.log) n.peers j).map encPeer)] 0, 4⟩) (fun j => j ≤ (l39 text).length) (fun j => (l39 text).length - j) 0 (weak_of [0, 1, 85, 92] trivial (by simp) (by simp only [go_sem, Int.natCast_zero, rP_zero, List.map_nil, Nat.reduceBEq, Nat.reduceAdd, Nat.reduceEqDiff, Nat.reduceLeDiff, Nat.reduceLT, Nat.reduceMul]) (by simp only [go_sem, Int.natCast_zero, rP_zero, List.map_nil, Nat.reduceBEq, Nat.reduceAdd, Nat.reduceEqDiff, Nat.reduceLeDiff, Nat.reduceLT, Nat.reduceMul])) (Nat.zero_le _) (fun j hj => ?_)
            refine wpA_reg [3, 6, 15, 17, 104, 105, 106, 107] [] rfl (by simp only [go_sem, Nat.reduceBEq, Nat.reduceAdd, Nat.reduceEqDiff, Nat.reduceLeDiff, Nat.reduceLT, Nat.reduceMul]; with_reducible rfl) (by first | trivial | omega | (simp +contextual [inI64] <;> omega)) ?_
            refine wpA_seq ?_
            refine wpA_cond rfl (fun hc => ?_) (fun hc => ?_)
            · have hc : j < (l39 text).length := by simpa using hc
              have hg := ints_getD (l39 text) hc
              have e : ((j : Int) - 1).toNat = j - 1 := by omega
              have hg2 := ints_getD (l39 text) (j := j - 1) (by omega)
              have hl := ints_len (l39 text)
              have hrl := rP_len (l39 text) n.id (lastP (newF n kind text).hard.log) n.peers j
              refine wpA_skip ?_
              refine tN ?_
              refine wpA_seq ?_
              refine wpA_block ?_
              refine wpA_reg [3, 6, 15, 17, 19, 104, 105, 106] [] rfl (by simp only [go_sem, hg, hg2, e, encI, Nat.reduceBEq, Nat.reduceAdd, Nat.reduceEqDiff, Nat.reduceLeDiff, Nat.reduceLT, Nat.reduceMul]; with_reducible rfl) (by first | trivial | omega | (simp +contextual [inI64, hl, hc] <;> omega)) ?_
              refine wpA_reg [3, 6, 15, 17, 19, 20, 104, 105, 106] [usePure (f44_walk n.peers (iAt (l39 text) j)) rfl cb44] rfl (by simp only [go_sem, hg, hg2, e, encI, Nat.reduceBEq, Nat.reduceAdd, Nat.reduceEqDiff, Nat.reduceLeDiff, Nat.reduceLT, Nat.reduceMul]; with_reducible rfl) (by first | trivial | omega | (simp +contextual [inI64, hl, hc] <;> omega)) ?_
              refine wpA_seq ?_
              refine wpA_reg [3, 6, 15, 17, 19, 20, 104, 105, 106, 121] [] rfl (by simp only [go_sem, hg, hg2, e, encI, Nat.reduceBEq, Nat.reduceAdd, Nat.reduceEqDiff, Nat.reduceLeDiff, Nat.reduceLT, Nat.reduceMul]; with_reducible rfl) (by first | trivial | omega | (simp +contextual [inI64, hl, hc] <;> omega)) ?_
              refine wpA_cond rfl (fun hd => ?_) (fun hd => ?_)
              · have h5 := hd
                have hx : 0 ≤ pIdx n.peers (iAt (l39 text) j) := by simp at h5; exact h5.2
                obtain ⟨hx2, _⟩ := pIdx_lt hx
                have hgp := peers_getD n.peers hx2
                have hpl := peers_len n.peers
                refine wpA_region [3, 6, 15, 17, 19, 20, 104, 105, 106] [] rfl (by simp only [go_sem, hg, hg2, e, encI, hgp, encPeer, Nat.reduceBEq, Nat.reduceAdd, Nat.reduceEqDiff, Nat.reduceLeDiff, Nat.reduceLT, Nat.reduceMul]; with_reducible rfl) (by first | trivial | omega | (simp +contextual [inI64, hl, hc] <;> omega)) ?_
                refine tN ?_
                refine wpA_reg [3, 6, 15, 17, 19, 104, 105, 106, 137] [] rfl (by simp only [go_sem, hg, hg2, e, encI, Nat.reduceBEq, Nat.reduceAdd, Nat.reduceEqDiff, Nat.reduceLeDiff, Nat.reduceLT, Nat.reduceMul]; with_reducible rfl) (by first | trivial | omega | (simp +contextual [inI64, hl, hc] <;> omega)) ?_
                refine wpA_cond rfl (fun hd => ?_) (fun hd => ?_)
                · exfalso
                  simp at h5 hd
                  omega
                · have h6 := hd
                  refine wpA_skip ?_
                  refine bN (tN ?_)
                  refine wpA_region [3, 6, 15, 17, 104, 105, 106] [] rfl (by simp only [go_sem, hg, hg2, e, encI, Nat.reduceBEq, Nat.reduceAdd, Nat.reduceEqDiff, Nat.reduceLeDiff, Nat.reduceLT, Nat.reduceMul]; with_reducible rfl) (by first | trivial | omega | (simp +contextual [inI64, hl, hc] <;> omega)) ?_
                  refine tN ?_
                  refine ⟨j + 1, hc, by omega, weak_of [0, 1, 2, 28] trivial (by simp) (by simp only [go_sem, Int.natCast_add, Int.natCast_one, rP_old h5, Nat.reduceBEq, Nat.reduceAdd, Nat.reduceEqDiff, Nat.reduceLeDiff, Nat.reduceLT, Nat.reduceMul]) (by simp only [go_sem, Int.natCast_add, Int.natCast_one, rP_old h5, Nat.reduceBEq, Nat.reduceAdd, Nat.reduceEqDiff, Nat.reduceLeDiff, Nat.reduceLT, Nat.reduceMul])⟩
              · have h5 := hd
                refine wpA_skip ?_
                refine tN ?_
                refine wpA_reg [3, 6, 15, 17, 19, 104, 105, 106, 137] [] rfl (by simp only [go_sem, hg, hg2, e, encI, Nat.reduceBEq, Nat.reduceAdd, Nat.reduceEqDiff, Nat.reduceLeDiff, Nat.reduceLT, Nat.reduceMul]; with_reducible rfl) (by first | trivial | omega | (simp +contextual [inI64, hl, hc] <;> omega)) ?_
                refine wpA_cond rfl (fun hd => ?_) (fun hd => ?_)
                · have h6 := hd
                  refine wpA_region [3, 6, 15, 17, 104, 105, 106] [usePure (f45_walk (newF n kind text) (logR_small (shaped_log hA0.sh))) rfl cb45] rfl (by simp only [go_sem, hg, hg2, e, encI, Nat.reduceBEq, Nat.reduceAdd, Nat.reduceEqDiff, Nat.reduceLeDiff, Nat.reduceLT, Nat.reduceMul]; with_reducible rfl) (by first | trivial | omega | (simp +contextual [inI64, hl, hc] <;> omega)) ?_
                  refine bN (tN ?_)
                  refine wpA_region [3, 6, 15, 17, 104, 105, 106] [] rfl (by simp only [go_sem, hg, hg2, e, encI, Nat.reduceBEq, Nat.reduceAdd, Nat.reduceEqDiff, Nat.reduceLeDiff, Nat.reduceLT, Nat.reduceMul]; with_reducible rfl) (by first | trivial | omega | (simp +contextual [inI64, hl, hc] <;> omega)) ?_
                  refine tN ?_
                  refine ⟨j + 1, hc, by omega, weak_of [0, 1, 2, 35] trivial (by simp) (by simp only [go_sem, Int.natCast_add, Int.natCast_one, rP_new h6, Nat.reduceBEq, Nat.reduceAdd, Nat.reduceEqDiff, Nat.reduceLeDiff, Nat.reduceLT, Nat.reduceMul]) (by simp only [go_sem, Int.natCast_add, Int.natCast_one, rP_new h6, Nat.reduceBEq, Nat.reduceAdd, Nat.reduceEqDiff, Nat.reduceLeDiff, Nat.reduceLT, Nat.reduceMul])⟩
                · have h6 := hd
                  refine wpA_skip ?_
                  refine bN (tN ?_)
                  refine wpA_region [3, 6, 15, 17, 104, 105, 106] [] rfl (by simp only [go_sem, hg, hg2, e, encI, Nat.reduceBEq, Nat.reduceAdd, Nat.reduceEqDiff, Nat.reduceLeDiff, Nat.reduceLT, Nat.reduceMul]; with_reducible rfl) (by first | trivial | omega | (simp +contextual [inI64, hl, hc] <;> omega)) ?_
                  refine tN ?_
                  refine ⟨j + 1, hc, by omega, weak_of [0, 1, 2, 3] trivial (by simp) (by simp only [go_sem, Int.natCast_add, Int.natCast_one, rP_self h5 h6, Nat.reduceBEq, Nat.reduceAdd, Nat.reduceEqDiff, Nat.reduceLeDiff, Nat.reduceLT, Nat.reduceMul]) (by simp only [go_sem, Int.natCast_add, Int.natCast_one, rP_self h5 h6, Nat.reduceBEq, Nat.reduceAdd, Nat.reduceEqDiff, Nat.reduceLeDiff, Nat.reduceLT, Nat.reduceMul])⟩
            · have hc : j = (l39 text).length := by simp at hc; omega
              subst hc
              refine wpA_exit (tE (tE (bE ?_)))
              refine tN ?_
              refine wpA_region [6, 15] [] rfl (by simp only [go_sem, Nat.reduceBEq, Nat.reduceAdd, Nat.reduceEqDiff, Nat.reduceLeDiff, Nat.reduceLT, Nat.reduceMul]; with_reducible rfl) (by first | trivial | omega | (simp +contextual [inI64] <;> omega)) ?_
              refine tN ?_
              refine wpA_reg [6, 15] [usePure (f46_walk (turnR (newF n kind text) (l39 text)) hA.sh (by have := hA.few; omega)) rfl cb46] rfl (by simp only [go_sem, turnR_id, turnR_hard, turnR_role, turnR_lead, turnR_timer, turnR_commit, turnR_got, turnR_peers, newF_id, newF_peers, Nat.reduceBEq, Nat.reduceAdd, Nat.reduceEqDiff, Nat.reduceLeDiff, Nat.reduceLT, Nat.reduceMul]; with_reducible rfl) (by first | trivial | omega | (simp +contextual [inI64] <;> omega)) ?_
              refine wpA_regD [[15], [15], [151], [15], [153], [6, 150], [152], [154], []] [6, 7, 8, 9] [usePure (f47_walk (sureR (turnR (newF n kind text) (l39 text))) hA.sureR.sh (by have := hA.sureR.few; omega) (fun p hp => by have := hA.sureR.nx p hp; omega)) rfl cb47, usePure (f45_walk (sureR (turnR (newF n kind text) (l39 text))) (logR_small (shaped_log hA.sureR.sh))) rfl cb45] mx rfl (by simp only [go_sem, Nat.reduceBEq, Nat.reduceAdd, Nat.reduceEqDiff, Nat.reduceLeDiff, Nat.reduceLT, Nat.reduceMul]; with_reducible rfl) (by kernel_rfl) (by first | trivial | omega | (simp +contextual [inI64] <;> omega)) ?_
              refine wpA_ret ?_
              refine endD (.inr rfl) (by simp only [go_sem, Nat.reduceBEq, Nat.reduceAdd, Nat.reduceEqDiff, Nat.reduceLeDiff, Nat.reduceLT, Nat.reduceMul]; with_reducible rfl) ?_
              rw [addR18, if_neg nB, if_neg nR, if_neg nC, if_neg (by rw [hW]; simp), if_pos k2, doneR]
              simp only [go_sem, Nat.reduceBEq, Nat.reduceAdd, Nat.reduceEqDiff, Nat.reduceLeDiff, Nat.reduceLT, Nat.reduceMul]
          · have h4 := hd
            have k2 := of_decide_eq_false h4
            have hA := able_new hE hW
            refine wpA_skip ?_
            refine tN ?_
            refine wpA_reg [6, 15] [usePure (f46_walk (newF n kind text) hA.sh (by have := hA.few; omega)) rfl cb46] rfl (by simp only [go_sem, turnR_id, turnR_hard, turnR_role, turnR_lead, turnR_timer, turnR_commit, turnR_got, turnR_peers, newF_id, newF_peers, Nat.reduceBEq, Nat.reduceAdd, Nat.reduceEqDiff, Nat.reduceLeDiff, Nat.reduceLT, Nat.reduceMul]; with_reducible rfl) (by first | trivial | omega | (simp +contextual [inI64] <;> omega)) ?_
            refine wpA_regD [[15], [15], [151], [15], [153], [6, 150], [152], [154], []] [6, 7, 8, 9] [usePure (f47_walk (sureR (newF n kind text)) hA.sureR.sh (by have := hA.sureR.few; omega) (fun p hp => by have := hA.sureR.nx p hp; omega)) rfl cb47, usePure (f45_walk (sureR (newF n kind text)) (logR_small (shaped_log hA.sureR.sh))) rfl cb45] mx rfl (by simp only [go_sem, Nat.reduceBEq, Nat.reduceAdd, Nat.reduceEqDiff, Nat.reduceLeDiff, Nat.reduceLT, Nat.reduceMul]; with_reducible rfl) (by kernel_rfl) (by first | trivial | omega | (simp +contextual [inI64] <;> omega)) ?_
            refine wpA_ret ?_
            refine endD (.inr rfl) (by simp only [go_sem, Nat.reduceBEq, Nat.reduceAdd, Nat.reduceEqDiff, Nat.reduceLeDiff, Nat.reduceLT, Nat.reduceMul]; with_reducible rfl) ?_
            rw [addR18, if_neg nB, if_neg nR, if_neg nC, if_neg (by rw [hW]; simp), if_neg k2, doneR]
            simp only [go_sem, Nat.reduceBEq, Nat.reduceAdd, Nat.reduceEqDiff, Nat.reduceLeDiff, Nat.reduceLT, Nat.reduceMul]

end Go.Abs
