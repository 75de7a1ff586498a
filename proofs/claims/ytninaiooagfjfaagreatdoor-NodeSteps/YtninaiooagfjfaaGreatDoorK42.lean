/- Walks: what a node makes of a record that it is given. No conditions. -/
import Derived.Test.YtninaiooagfjfaaGreatDoorK41
set_option linter.unusedVariables false
set_option linter.unusedSimpArgs false
set_option maxRecDepth 20000
namespace Go.Abs
open Go Go.RowKit Go.Proofs

attribute [go_sem] addV failR
theorem turnF_id (n : Node) (l : List Int) : (turnF n l).id = n.id := rfl
theorem turnF_hard (n : Node) (l : List Int) : (turnF n l).hard = n.hard := rfl
theorem turnF_role (n : Node) (l : List Int) : (turnF n l).role = n.role := rfl
theorem turnF_lead (n : Node) (l : List Int) : (turnF n l).lead = n.lead := rfl
theorem turnF_timer (n : Node) (l : List Int) : (turnF n l).timer = n.timer := rfl
theorem turnF_commit (n : Node) (l : List Int) : (turnF n l).commit = n.commit := rfl
theorem turnF_got (n : Node) (l : List Int) : (turnF n l).got = n.got := rfl
theorem turnF_peers (n : Node) (l : List Int) : (turnF n l).peers = peersF l n.id (lastF n.hard.log).1 n.peers := rfl
theorem bad_elect {n : Node} {kind : Int} {text : ByteArray} (h : badF n kind text = false) : electR n = true := by
  cases he : electR n with
  | true => rfl
  | false => simp [badF, he] at h
theorem conf_right {n : Node} {text : ByteArray} (h : ¬ confF n text = true) : right ((parse text).getD []) = true ∧ (parse text).getD [] ≠ [] := by
  cases hp : parse text with
  | none => simp [confF, hp] at h
  | some l =>
    have hr := parse_right hp
    refine ⟨hr, fun e => ?_⟩
    have := (right_small hr).1
    simp only [Option.getD_some] at e
    rw [e] at this; simp at this
theorem f25_B (n : Node) (kind : Int) (text : ByteArray) (hs : n.hard.log.recs.length ≤ 200) : CallsA Tryz.prog 25 [.agg (nodeV n), .agg (recL ⟨n.hard.term, kind, text⟩)] [] (.tup [.agg (nodeV (newF n kind text)), .d (boo (walR (newF n kind text).hard))]) [] := f25_walk n _ hs
theorem cb24 : callB Tryz.prog 24 = true := by kernel_rfl
theorem cb18 : callB Tryz.prog 18 = true := by kernel_rfl
theorem f18_walk (bad : Int) : CallsA Tryz.prog 18 [.d (i64 bad)] [] (addV (failR bad)) [] := by
  refine callsW_of (fn := Tryz.f18) [.cell 2 30, .tmp 3, .tmp 4, .tmp 5] Tryz.func18 rfl rfl (by show 1 ≤ 8; omega) ?_
  refine wpA_reg [0, 2] [] rfl (by simp only [go_sem, Nat.reduceBEq, Nat.reduceAdd, Nat.reduceEqDiff, Nat.reduceLeDiff, Nat.reduceLT, Nat.reduceMul]; with_reducible rfl) (by first | trivial | omega | (simp +contextual [inI64] <;> omega)) ?_
  refine wpA_reg [2, 3, 4, 5] [] rfl (by simp only [go_sem, Nat.reduceBEq, Nat.reduceAdd, Nat.reduceEqDiff, Nat.reduceLeDiff, Nat.reduceLT, Nat.reduceMul]; with_reducible rfl) (by first | trivial | omega | (simp +contextual [inI64] <;> omega)) ?_
  refine wpA_ret ?_
  refine endL (l := [.agg (nodeV node0), .d (msgs []), .d (i64 0), .d (i64 bad)]) [] (.inr rfl) (by simp only [go_sem, Nat.reduceBEq, Nat.reduceAdd, Nat.reduceEqDiff, Nat.reduceLeDiff, Nat.reduceLT, Nat.reduceMul]; with_reducible rfl) trivial (by simp) trivial (by simp only [go_sem, Nat.reduceBEq, Nat.reduceAdd, Nat.reduceEqDiff, Nat.reduceLeDiff, Nat.reduceLT, Nat.reduceMul]; simp [snapL, snap, leL, le, leD, recs, ints, peers, msgs, i64, str, boo, node0]) ?_
  rfl

theorem cb6 : callB Tryz.prog 6 = true := by kernel_rfl
theorem f6_walk (n : Node) (kind : Int) (text : ByteArray) : CallsA Tryz.prog 6 [.agg (nodeV n), .d (i64 kind), .d (str text)] [] (addV (addF n kind text)) [] := by
  refine callsW_of (fn := Tryz.f6) [.cell 6 30, .tmp 7, .tmp 8, .tmp 9] Tryz.func6 rfl rfl (by show 3 ≤ 146; omega) ?_
  refine wpA_reg [1, 2, 3, 6] [] rfl (by simp only [go_sem, Nat.reduceBEq, Nat.reduceAdd, Nat.reduceEqDiff, Nat.reduceLeDiff, Nat.reduceLT, Nat.reduceMul]; with_reducible rfl) (by first | trivial | omega | (simp +contextual [inI64] <;> omega)) ?_
  refine wpA_reg [1, 2, 3, 6, 10] [] rfl (by simp only [go_sem, Nat.reduceBEq, Nat.reduceAdd, Nat.reduceEqDiff, Nat.reduceLeDiff, Nat.reduceLT, Nat.reduceMul]; with_reducible rfl) (by first | trivial | omega | (simp +contextual [inI64] <;> omega)) ?_
  refine wpA_seq ?_
  refine wpA_block ?_
  refine wpA_reg [1, 2, 3, 6, 10, 19] [usePure (f19_walk n) rfl cb19] rfl (by simp only [go_sem, Nat.reduceBEq, Nat.reduceAdd, Nat.reduceEqDiff, Nat.reduceLeDiff, Nat.reduceLT, Nat.reduceMul]; with_reducible rfl) (by first | trivial | omega | (simp +contextual [inI64] <;> omega)) ?_
  refine wpA_cond rfl (fun hd => ?_) (fun hd => ?_)
  · have h0 := hd
    refine wpA_reg [6, 7, 8, 9] [usePure (f18_walk 1) rfl cb18] rfl (by simp only [go_sem, Nat.reduceBEq, Nat.reduceAdd, Nat.reduceEqDiff, Nat.reduceLeDiff, Nat.reduceLT, Nat.reduceMul]; with_reducible rfl) (by first | trivial | omega | (simp +contextual [inI64] <;> omega)) ?_
    refine wpA_ret (bR (tR ?_))
    refine endD (.inr rfl) (by simp only [go_sem, Nat.reduceBEq, Nat.reduceAdd, Nat.reduceEqDiff, Nat.reduceLeDiff, Nat.reduceLT, Nat.reduceMul]; with_reducible rfl) ?_
    rw [addF, if_pos (show badF n kind text = true from h0)]
    simp only [go_sem, Nat.reduceBEq, Nat.reduceAdd, Nat.reduceEqDiff, Nat.reduceLeDiff, Nat.reduceLT, Nat.reduceMul]
  · have h0 := hd
    have hB : badF n kind text = false := h0
    have nB : ¬ badF n kind text = true := by rw [hB]; simp
    have hE := bad_elect hB
    have hs := electR_shaped hE
    have hV := votersOf_few hs
    have hL := parse_few text
    have hR : n.hard.log.recs.length ≤ 200 := (shaped_parts hs).2.2.2.2.1
    refine wpA_reg [1, 2, 3, 6, 10, 42] [] rfl (by simp only [go_sem, Nat.reduceBEq, Nat.reduceAdd, Nat.reduceEqDiff, Nat.reduceLeDiff, Nat.reduceLT, Nat.reduceMul]; with_reducible rfl) (by first | trivial | omega | (simp +contextual [inI64] <;> omega)) ?_
    refine wpA_cond rfl (fun hd => ?_) (fun hd => ?_)
    · have h1 := hd
      refine wpA_reg [6, 7, 8, 9] [usePure (f18_walk 171) rfl cb18] rfl (by simp only [go_sem, Nat.reduceBEq, Nat.reduceAdd, Nat.reduceEqDiff, Nat.reduceLeDiff, Nat.reduceLT, Nat.reduceMul]; with_reducible rfl) (by first | trivial | omega | (simp +contextual [inI64] <;> omega)) ?_
      refine wpA_ret (bR (tR ?_))
      refine endD (.inr rfl) (by simp only [go_sem, Nat.reduceBEq, Nat.reduceAdd, Nat.reduceEqDiff, Nat.reduceLeDiff, Nat.reduceLT, Nat.reduceMul]; with_reducible rfl) ?_
      rw [addF, if_neg nB, if_pos (of_decide_eq_true h1)]
      simp only [go_sem, Nat.reduceBEq, Nat.reduceAdd, Nat.reduceEqDiff, Nat.reduceLeDiff, Nat.reduceLT, Nat.reduceMul]
    · have h1 := hd
      have nR : ¬ n.role ≠ 2 := of_decide_eq_false h1
      refine wpA_skip ?_
      refine bN (tN ?_)
      refine wpA_reg [1, 2, 3, 6, 10, 11] [] rfl (by simp only [go_sem, Nat.reduceBEq, Nat.reduceAdd, Nat.reduceEqDiff, Nat.reduceLeDiff, Nat.reduceLT, Nat.reduceMul]; with_reducible rfl) (by first | trivial | omega | (simp +contextual [inI64] <;> omega)) ?_
      refine wpA_seq ?_
      refine wpA_reg [1, 2, 3, 6, 10, 11, 53] [] rfl (by simp only [go_sem, Nat.reduceBEq, Nat.reduceAdd, Nat.reduceEqDiff, Nat.reduceLeDiff, Nat.reduceLT, Nat.reduceMul]; with_reducible rfl) (by first | trivial | omega | (simp +contextual [inI64] <;> omega)) ?_
      refine wpA_cond rfl (fun hd => ?_) (fun hd => ?_)
      · have h2 := hd
        have k2 := of_decide_eq_true h2
        refine wpA_reg [1, 2, 3, 6, 10, 12, 13] [usePure (f20_B text) rfl cb20] rfl (by simp only [go_sem, Nat.reduceBEq, Nat.reduceAdd, Nat.reduceEqDiff, Nat.reduceLeDiff, Nat.reduceLT, Nat.reduceMul]; with_reducible rfl) (by first | trivial | omega | (simp +contextual [inI64] <;> omega)) ?_
        refine wpA_reg [1, 2, 3, 6, 10, 12, 13, 14, 15] [usePure (f21_walk n.hard (electR_shaped hE)) rfl cb21] rfl (by simp only [go_sem, Nat.reduceBEq, Nat.reduceAdd, Nat.reduceEqDiff, Nat.reduceLeDiff, Nat.reduceLT, Nat.reduceMul]; with_reducible rfl) (by first | trivial | omega | (simp +contextual [inI64] <;> omega)) ?_
        refine wpA_reg [1, 2, 3, 6, 10, 12, 13, 14, 15, 16] [usePure (f22_walk n.hard.log n.commit) rfl cb22] rfl (by simp only [go_sem, Nat.reduceBEq, Nat.reduceAdd, Nat.reduceEqDiff, Nat.reduceLeDiff, Nat.reduceLT, Nat.reduceMul]; with_reducible rfl) (by first | trivial | omega | (simp +contextual [inI64] <;> omega)) ?_
        refine wpA_seq ?_
        refine wpA_reg [1, 2, 3, 6, 10, 12, 101] [usePure (f23_walk (votersOf n.hard).1 ((parse text).getD []) (by omega) (by omega)) rfl cb23, usePure (f24_walk ((parse text).getD []) n.id (by omega)) rfl cb24] rfl (by simp only [go_sem, Nat.reduceBEq, Nat.reduceAdd, Nat.reduceEqDiff, Nat.reduceLeDiff, Nat.reduceLT, Nat.reduceMul]; with_reducible rfl) (by first | trivial | omega | (simp +contextual [inI64] <;> omega)) ?_
        refine wpA_cond rfl (fun hd => ?_) (fun hd => ?_)
        · have h3 := hd
          refine wpA_reg [6, 7, 8, 9] [usePure (f18_walk 160) rfl cb18] rfl (by simp only [go_sem, Nat.reduceBEq, Nat.reduceAdd, Nat.reduceEqDiff, Nat.reduceLeDiff, Nat.reduceLT, Nat.reduceMul]; with_reducible rfl) (by first | trivial | omega | (simp +contextual [inI64] <;> omega)) ?_
          refine wpA_ret (tR (tR ?_))
          refine endD (.inr rfl) (by simp only [go_sem, Nat.reduceBEq, Nat.reduceAdd, Nat.reduceEqDiff, Nat.reduceLeDiff, Nat.reduceLT, Nat.reduceMul]; with_reducible rfl) ?_
          rw [addF, if_neg nB, if_neg nR, if_pos k2, if_pos (show confF n text = true from h3)]
          simp only [go_sem, Nat.reduceBEq, Nat.reduceAdd, Nat.reduceEqDiff, Nat.reduceLeDiff, Nat.reduceLT, Nat.reduceMul]
        · have h3 := hd
          have nC : ¬ confF n text = true := by rw [show confF n text = false from h3]; simp
          obtain ⟨hRt, hne⟩ := conf_right nC
          have hn0 : 0 < ((parse text).getD []).length := List.length_pos_iff.2 hne
          have hn1 : 0 < ((((parse text).getD []).map encI).getD 0 []).length := by rw [ints_getD _ hn0]; simp
          have hI : ∀ x ∈ (parse text).getD [], -9223372036854775808 ≤ x ∧ x ≤ 9223372036854775807 := fun x hx => by have := right_range hRt x hx; omega
          have hP : (newF n kind text).peers.length ≤ 1000 := by have := electR_few hE; show n.peers.length ≤ 1000; omega
          have hQ : ∀ p ∈ (newF n kind text).peers, -9223372036854775808 ≤ p.id ∧ p.id ≤ 9223372036854775807 := fun p hp => by have := (electR_mem hE p hp).1; omega
          refine wpA_skip ?_
          refine tN ?_
          refine wpA_region [1, 2, 3, 6, 10, 11] [] rfl (by simp only [go_sem, Nat.reduceBEq, Nat.reduceAdd, Nat.reduceEqDiff, Nat.reduceLeDiff, Nat.reduceLT, Nat.reduceMul]; with_reducible rfl) (by first | trivial | omega | (simp +contextual [inI64] <;> omega)) ?_
          refine tN ?_
          refine wpA_reg [3, 6, 10, 11, 18] [usePure (f25_B n kind text hR) rfl cb25] rfl (by simp only [go_sem, Nat.reduceBEq, Nat.reduceAdd, Nat.reduceEqDiff, Nat.reduceLeDiff, Nat.reduceLT, Nat.reduceMul]; with_reducible rfl) (by first | trivial | omega | (simp +contextual [inI64] <;> omega)) ?_
          refine wpA_seq ?_
          refine wpA_reg [3, 6, 10, 11, 121] [] rfl (by simp only [go_sem, Nat.reduceBEq, Nat.reduceAdd, Nat.reduceEqDiff, Nat.reduceLeDiff, Nat.reduceLT, Nat.reduceMul]; with_reducible rfl) (by first | trivial | omega | (simp +contextual [inI64] <;> omega)) ?_
          refine wpA_cond rfl (fun hd => ?_) (fun hd => ?_)
          · have h4 := hd
            refine wpA_reg [6, 7, 8, 9] [usePure (f18_walk 130) rfl cb18] rfl (by simp only [go_sem, Nat.reduceBEq, Nat.reduceAdd, Nat.reduceEqDiff, Nat.reduceLeDiff, Nat.reduceLT, Nat.reduceMul]; with_reducible rfl) (by first | trivial | omega | (simp +contextual [inI64] <;> omega)) ?_
            refine wpA_ret (tR ?_)
            refine endD (.inr rfl) (by simp only [go_sem, Nat.reduceBEq, Nat.reduceAdd, Nat.reduceEqDiff, Nat.reduceLeDiff, Nat.reduceLT, Nat.reduceMul]; with_reducible rfl) ?_
            rw [addF, if_neg nB, if_neg nR, if_pos k2, if_neg nC, if_pos (by simpa using h4)]
            simp only [go_sem, Nat.reduceBEq, Nat.reduceAdd, Nat.reduceEqDiff, Nat.reduceLeDiff, Nat.reduceLT, Nat.reduceMul]
          · have h4 := hd
            have hW : walR (newF n kind text).hard = true := by simpa using h4
            refine wpA_skip ?_
            refine tN ?_
            refine wpA_seq ?_
            refine wpA_reg [3, 6, 11, 129] [] rfl (by simp only [go_sem, Nat.reduceBEq, Nat.reduceAdd, Nat.reduceEqDiff, Nat.reduceLeDiff, Nat.reduceLT, Nat.reduceMul]; with_reducible rfl) (by first | trivial | omega | (simp +contextual [inI64] <;> omega)) ?_
            refine wpA_cond rfl (fun hd => ?_) (fun hd => ?_)
            · have h5 := hd
              have hA := able_turn (l := (parse text).getD []) hE hW hL
              refine wpA_drawn [[11], [3], [131], [3], [133], [3], [135], [130, 132, 134, 136], [3], [137, 138]] [3, 6] [usePure (f27_walk (newF n kind text)) rfl cb27, usePure (f26_walk ((parse text).getD []) (newF n kind text).id (lastF (newF n kind text).hard.log).1 (newF n kind text).peers (by omega) hP hI hQ) rfl cb26] mx rfl (by simp only [go_sem, Nat.reduceBEq, Nat.reduceAdd, Nat.reduceEqDiff, Nat.reduceLeDiff, Nat.reduceLT, Nat.reduceMul]; with_reducible rfl) (by kernel_rfl) (by first | trivial | omega | (simp +contextual [inI64] <;> omega)) ?_
              refine tN ?_
              refine wpA_reg [3, 6] [usePure (f28_walk (turnF (newF n kind text) ((parse text).getD [])) hA.sh) rfl cb28] rfl (by simp only [go_sem, turnF_id, turnF_hard, turnF_role, turnF_lead, turnF_timer, turnF_commit, turnF_got, turnF_peers, Nat.reduceBEq, Nat.reduceAdd, Nat.reduceEqDiff, Nat.reduceLeDiff, Nat.reduceLT, Nat.reduceMul]; with_reducible rfl) (by first | trivial | omega | (simp +contextual [inI64] <;> omega)) ?_
              refine wpA_regD [[3], [3], [142], [3], [144], [6, 141], [143], [145], []] [6, 7, 8, 9] [usePure (f29_walk (sureN (turnF (newF n kind text) ((parse text).getD []))) hA.sure.sh (by have := hA.sure.few; omega) (fun p hp => by have := hA.sure.nx p hp; omega)) rfl cb29, usePure (f27_walk (sureN (turnF (newF n kind text) ((parse text).getD [])))) rfl cb27] mx rfl (by simp only [go_sem, Nat.reduceBEq, Nat.reduceAdd, Nat.reduceEqDiff, Nat.reduceLeDiff, Nat.reduceLT, Nat.reduceMul]; with_reducible rfl) (by kernel_rfl) (by first | trivial | omega | (simp +contextual [inI64] <;> omega)) ?_
              refine wpA_ret ?_
              refine endD (.inr rfl) (by simp only [go_sem, Nat.reduceBEq, Nat.reduceAdd, Nat.reduceEqDiff, Nat.reduceLeDiff, Nat.reduceLT, Nat.reduceMul]; with_reducible rfl) ?_
              rw [addF, if_neg nB, if_neg nR, if_pos k2, if_neg nC, if_neg (by rw [hW]; simp), doneF]
              simp only [go_sem, Nat.reduceBEq, Nat.reduceAdd, Nat.reduceEqDiff, Nat.reduceLeDiff, Nat.reduceLT, Nat.reduceMul]
            · cases hd
      · have h2 := hd
        have k2 := of_decide_eq_false h2
        refine wpA_skip ?_
        refine tN ?_
        refine wpA_reg [3, 6, 10, 11, 18] [usePure (f25_B n kind text hR) rfl cb25] rfl (by simp only [go_sem, Nat.reduceBEq, Nat.reduceAdd, Nat.reduceEqDiff, Nat.reduceLeDiff, Nat.reduceLT, Nat.reduceMul]; with_reducible rfl) (by first | trivial | omega | (simp +contextual [inI64] <;> omega)) ?_
        refine wpA_seq ?_
        refine wpA_reg [3, 6, 10, 11, 121] [] rfl (by simp only [go_sem, Nat.reduceBEq, Nat.reduceAdd, Nat.reduceEqDiff, Nat.reduceLeDiff, Nat.reduceLT, Nat.reduceMul]; with_reducible rfl) (by first | trivial | omega | (simp +contextual [inI64] <;> omega)) ?_
        refine wpA_cond rfl (fun hd => ?_) (fun hd => ?_)
        · have h3 := hd
          refine wpA_reg [6, 7, 8, 9] [usePure (f18_walk 130) rfl cb18] rfl (by simp only [go_sem, Nat.reduceBEq, Nat.reduceAdd, Nat.reduceEqDiff, Nat.reduceLeDiff, Nat.reduceLT, Nat.reduceMul]; with_reducible rfl) (by first | trivial | omega | (simp +contextual [inI64] <;> omega)) ?_
          refine wpA_ret (tR ?_)
          refine endD (.inr rfl) (by simp only [go_sem, Nat.reduceBEq, Nat.reduceAdd, Nat.reduceEqDiff, Nat.reduceLeDiff, Nat.reduceLT, Nat.reduceMul]; with_reducible rfl) ?_
          rw [addF, if_neg nB, if_neg nR, if_neg k2, if_pos (by simpa using h3)]
          simp only [go_sem, Nat.reduceBEq, Nat.reduceAdd, Nat.reduceEqDiff, Nat.reduceLeDiff, Nat.reduceLT, Nat.reduceMul]
        · have h3 := hd
          have hW : walR (newF n kind text).hard = true := by simpa using h3
          refine wpA_skip ?_
          refine tN ?_
          refine wpA_seq ?_
          refine wpA_reg [3, 6, 11, 129] [] rfl (by simp only [go_sem, Nat.reduceBEq, Nat.reduceAdd, Nat.reduceEqDiff, Nat.reduceLeDiff, Nat.reduceLT, Nat.reduceMul]; with_reducible rfl) (by first | trivial | omega | (simp +contextual [inI64] <;> omega)) ?_
          refine wpA_cond rfl (fun hd => ?_) (fun hd => ?_)
          · cases hd
          · have h4 := hd
            have hA := able_new hE hW
            refine wpA_skip ?_
            refine tN ?_
            refine wpA_reg [3, 6] [usePure (f28_walk (newF n kind text) hA.sh) rfl cb28] rfl (by simp only [go_sem, turnF_id, turnF_hard, turnF_role, turnF_lead, turnF_timer, turnF_commit, turnF_got, turnF_peers, Nat.reduceBEq, Nat.reduceAdd, Nat.reduceEqDiff, Nat.reduceLeDiff, Nat.reduceLT, Nat.reduceMul]; with_reducible rfl) (by first | trivial | omega | (simp +contextual [inI64] <;> omega)) ?_
            refine wpA_regD [[3], [3], [142], [3], [144], [6, 141], [143], [145], []] [6, 7, 8, 9] [usePure (f29_walk (sureN (newF n kind text)) hA.sure.sh (by have := hA.sure.few; omega) (fun p hp => by have := hA.sure.nx p hp; omega)) rfl cb29, usePure (f27_walk (sureN (newF n kind text))) rfl cb27] mx rfl (by simp only [go_sem, Nat.reduceBEq, Nat.reduceAdd, Nat.reduceEqDiff, Nat.reduceLeDiff, Nat.reduceLT, Nat.reduceMul]; with_reducible rfl) (by kernel_rfl) (by first | trivial | omega | (simp +contextual [inI64] <;> omega)) ?_
            refine wpA_ret ?_
            refine endD (.inr rfl) (by simp only [go_sem, Nat.reduceBEq, Nat.reduceAdd, Nat.reduceEqDiff, Nat.reduceLeDiff, Nat.reduceLT, Nat.reduceMul]; with_reducible rfl) ?_
            rw [addF, if_neg nB, if_neg nR, if_neg k2, if_neg (by rw [hW]; simp), doneF]
            simp only [go_sem, Nat.reduceBEq, Nat.reduceAdd, Nat.reduceEqDiff, Nat.reduceLeDiff, Nat.reduceLT, Nat.reduceMul]

end Go.Abs
