/- Walks: a server ticks. No conditions. -/
import Derived.Test.YtninaiooagfjfaaGreatDoorK49
set_option linter.unusedVariables false
set_option linter.unusedSimpArgs false
set_option maxRecDepth 20000
namespace Go.Abs
open Go Go.RowKit Go.Proofs

def badT (n : Node) : Bool := !(electR n) || decide (n.role ≠ 2)
def sendTo (n : Node) (t : Int) : List Msg := if badT n = true then [] else if 0 ≤ pIdx n.peers t then [sendF n (pAt n.peers (pIdx n.peers t).toNat)] else []
def newP (l : List Int) (self next : Int) : Nat → List Peer
  | 0 => []
  | j + 1 => if iAt l j = self then newP l self next j else newP l self next j ++ [⟨iAt l j, next, 0⟩]
theorem newP_zero (l : List Int) (self next : Int) : newP l self next 0 = [] := rfl
theorem newP_len (l : List Int) (self next : Int) : ∀ j, (newP l self next j).length ≤ j
  | 0 => Nat.le_refl _
  | j + 1 => by
    rw [newP]
    have := newP_len l self next j
    split
    · omega
    · simp; omega
theorem newP_yes {l : List Int} {self next : Int} {j : Nat} (h : decide (iAt l j ≠ self) = true) : (newP l self next (j + 1)).map encPeer = (newP l self next j).map encPeer ++ [[.lit (.int .i64 (iAt l j)), .lit (.int .i64 next), .lit (.int .i64 0)]] := by
  rw [newP, if_neg (of_decide_eq_true h), List.map_append]; rfl
theorem newP_no {l : List Int} {self next : Int} {j : Nat} (h : decide (iAt l j ≠ self) = false) : newP l self next (j + 1) = newP l self next j := by
  rw [newP, if_pos (by simpa using h)]
theorem newP_mem {l : List Int} {self next : Int} {p : Peer} : ∀ {j : Nat}, p ∈ newP l self next j → p.next = next
  | 0, h => by cases h
  | j + 1, h => by
    rw [newP] at h
    split at h
    · exact newP_mem h
    · rcases List.mem_append.1 h with h | h
      · exact newP_mem h
      · obtain rfl := List.mem_singleton.1 h; rfl
def leadR2 (n : Node) : Node := withP (lead1 n) (newP (votersOf n.hard).1 n.id (lastP n.hard.log + 1) (votersOf n.hard).1.length)
def leadR3 (n : Node) : Node := addR (leadR2 n) (recL0 n)
def leadRD (m : Node) : Node × List Msg := (sureR m, (sureR m).peers.map (oneR (sureR m)))
def leadR (n : Node) : Node × List Msg := if n.role ≠ 1 then (n, []) else if walR (leadR3 n).hard = true then leadRD (leadR3 n) else leadRD (leadR2 n)
theorem leadR2_id (n : Node) : (leadR2 n).id = n.id := rfl
theorem leadR2_hard (n : Node) : (leadR2 n).hard = n.hard := rfl
theorem leadR2_role (n : Node) : (leadR2 n).role = 2 := rfl
theorem leadR2_lead (n : Node) : (leadR2 n).lead = n.id := rfl
theorem leadR2_timer (n : Node) : (leadR2 n).timer = 2 := rfl
theorem leadR2_commit (n : Node) : (leadR2 n).commit = n.commit := rfl
theorem leadR2_got (n : Node) : (leadR2 n).got = [] := rfl
theorem leadR2_peers (n : Node) : (leadR2 n).peers = newP (votersOf n.hard).1 n.id (lastP n.hard.log + 1) (votersOf n.hard).1.length := rfl
theorem able_leadR2 {n : Node} (h : electR n = true) : Able (leadR2 n) := by
  have hv := votersOf_few (electR_shaped h)
  have hl := last_small (electR_shaped h)
  refine ⟨(electR_shaped h : shaped n.hard = true), ?_, fun p hp => ?_⟩
  · have := newP_len (votersOf n.hard).1 n.id (lastP n.hard.log + 1) (votersOf n.hard).1.length
    show (newP _ _ _ _).length ≤ 20
    omega
  · have := newP_mem hp
    omega
theorem able_leadR3 {n : Node} (h : electR n = true) (hw : walR (leadR3 n).hard = true) : Able (leadR3 n) := ⟨walR_shaped hw, (able_leadR2 h).few, (able_leadR2 h).nx⟩
theorem f43_C (n : Node) (hs : (leadR2 n).hard.log.recs.length ≤ 200) : CallsA Tryz.prog 43 [.agg (nodeV (leadR2 n)), .agg (recL (recL0 n))] [] (.tup [.agg (nodeV (leadR3 n)), .d (boo (walR (leadR3 n).hard))]) [] := f43_walk (leadR2 n) _ hs
theorem electR_tim {n : Node} (h : electR n = true) : 0 ≤ n.timer ∧ n.timer ≤ 1048576 := by
  have := (electR_parts h).1
  simp [head19, inB] at this
  exact this.2
theorem msgs_nextE {f : Peer → Msg} {l : List Peer} {j : Nat} (h : j < l.length) : ((l.take (j + 1)).map f).map encMsg = ((l.take j).map f).map encMsg ++ [encMsg (f (pAt l j))] := by
  rw [List.take_succ_eq_append_getElem h, List.map_append, List.map_append, pAt_get h]; rfl
theorem send_one {n : Node} (hE : electR (stand1 n 2) = true) (k2 : n.role = 2) {j : Nat} (hc : j < n.peers.length) : sendTo (stand1 n 2) (pAt n.peers j).id = [sendF (stand1 n 2) (pAt n.peers j)] := by
  have hb : ¬ badT (stand1 n 2) = true := by rw [badT, hE, stand1_role]; simp [k2]
  have ha : Apart (stand1 n 2).peers := electR_apart hE
  have h0 : 0 ≤ pIdx n.peers (pAt n.peers j).id := by
    by_cases h : 0 ≤ pIdx n.peers (pAt n.peers j).id
    · exact h
    · exact absurd rfl (pIdx_no h j hc)
  obtain ⟨h1, h2⟩ := pIdx_lt h0
  have h3 := ha _ _ h1 hc h2
  rw [sendTo, if_neg hb]
  show (if 0 ≤ pIdx n.peers (pAt n.peers j).id then [sendF (stand1 n 2) (pAt n.peers (pIdx n.peers (pAt n.peers j).id).toNat)] else []) = _
  rw [if_pos h0, h3]
def tickF (n : Node) (x : Int) : Node × List Msg × Int :=
  if electR n = false then (node0, [], 1)
  else if 1 < n.timer then (stand1 n (n.timer - 1), [], 0)
  else if n.role = 2 then (stand1 n 2, n.peers.map (sendF (stand1 n 2)), 0)
  else if (standF n x).2.2 = true then ((leadF (standF n x).1).1, (standF n x).2.1 ++ (leadF (standF n x).1).2, 0)
  else ((standF n x).1, (standF n x).2.1, 0)
def tickR (n : Node) (x : Int) : Node × List Msg × Int :=
  if refR n = false then (node0, [], 1)
  else if 2 ≤ n.timer then (stand1 n (n.timer - 1), [], 0)
  else if n.role = 2 then (stand1 n 2, n.peers.map (oneR (stand1 n 2)), 0)
  else if (standR n x).2.2 = true then ((leadR (standR n x).1).1, (standR n x).2.1 ++ (leadR (standR n x).1).2, 0)
  else ((standR n x).1, (standR n x).2.1, 0)
def tickV (r : Node × List Msg × Int) : V := .tup [.agg (nodeV r.1), .d (msgs r.2.1), .d (i64 r.2.2)]
attribute [go_sem] tickV
theorem leadF_len (m : Node) : (leadF m).2.length ≤ 20 := by
  unfold leadF
  split
  · simp
  · rename_i hb
    have hE : electR m = true := by
      cases he : electR m with
      | true => rfl
      | false => simp [bad35, he] at hb
    split
    · rename_i hw
      have := (able_lead3 hE hw).few
      simp [leadD, sureN_peers]; omega
    · have := (able_lead2 hE).few
      simp [leadD, sureN_peers]; omega
theorem leadR_len {m : Node} (hE : electR m = true) : (leadR m).2.length ≤ 20 := by
  unfold leadR
  split
  · simp
  · split
    · rename_i hw
      have := (able_leadR3 hE hw).few
      simp [leadRD, sureR_peers]; omega
    · have := (able_leadR2 hE).few
      simp [leadRD, sureR_peers]; omega
theorem lead_lenF (n : Node) (x : Int) : (standF n x).2.1.length + (leadF (standF n x).1).2.length ≤ 1000 := by
  have h1 := leadF_len (standF n x).1
  have h2 : (standF n x).2.1.length ≤ 20 := by
    unfold standF
    split
    · simp
    · rename_i hE
      split
      · simp
      · have := askL_len (stand3 n (drawF x)) (lastF n.hard.log).1 (lastF n.hard.log).2 (votersOf n.hard).1 (votersOf n.hard).1.length
        have := votersOf_few (electR_shaped (by simpa using hE))
        simp only []; omega
  omega
theorem lead_lenR (n : Node) (x : Int) (hE : electR n = true) (hE3 : electR (standR n x).1 = true) : (standR n x).2.1.length + (leadR (standR n x).1).2.length ≤ 1000 := by
  have h1 := leadR_len hE3
  have h2 : (standR n x).2.1.length ≤ 20 := by
    unfold standR
    split
    · simp
    · have := askL_len (stand3 n (drawR x)) (lastP n.hard.log) (term15 n.hard.log (lastP n.hard.log)) (votersOf n.hard).1 (votersOf n.hard).1.length
      have := votersOf_few (electR_shaped hE)
      simp only []; omega
  omega
def hard1 : Hard := ⟨0, 0, ⟨0, 0, []⟩, ⟨⟨[]⟩⟩, [1]⟩
theorem hard1_t : hard1.term = 0 := rfl
theorem hard1_v : hard1.vote = 0 := rfl
theorem hard1_b : hard1.log.base = 0 := rfl
theorem hard1_bt : hard1.log.bterm = 0 := rfl
theorem hard1_r : hard1.log.recs = [] := rfl
theorem hard1_s : hard1.snap = ⟨⟨[]⟩⟩ := rfl
theorem hard1_vs : hard1.voters = [1] := rfl
theorem b1 : (beginF 1 hard1 1).2 = 0 := by kernel_rfl
theorem b2 : (tickF (beginF 1 hard1 1).1 5).2.2 = 0 := by kernel_rfl
theorem b3 : (tickF (beginF 1 hard1 1).1 5).1.role = 2 := by kernel_rfl
theorem cb50 : callB Tryz.prog 50 = true := by kernel_rfl
theorem f50_walk (n : Node) (to_ : Int) : CallsA Tryz.prog 50 [.agg (nodeV n), .d (i64 to_)] [] (.d (msgs (sendTo n to_))) [] := by
  refine callsW_of (fn := Tryz.f50) [.tmp 4] Tryz.func50 rfl rfl (by show 2 ≤ 31; omega) ?_
  refine wpA_reg [1, 2] [] rfl (by simp only [go_sem, Nat.reduceBEq, Nat.reduceAdd, Nat.reduceEqDiff, Nat.reduceLeDiff, Nat.reduceLT, Nat.reduceMul]; with_reducible rfl) (by first | trivial | omega | (simp +contextual [inI64] <;> omega)) ?_
  refine wpA_seq ?_
  refine wpA_reg [1, 2, 14] [usePure (f19_walk n) rfl cb19] rfl (by simp only [go_sem, Nat.reduceBEq, Nat.reduceAdd, Nat.reduceEqDiff, Nat.reduceLeDiff, Nat.reduceLT, Nat.reduceMul]; with_reducible rfl) (by first | trivial | omega | (simp +contextual [inI64] <;> omega)) ?_
  refine wpA_cond rfl (fun hd => ?_) (fun hd => ?_)
  · have h0 := hd
    refine wpA_reg [4] [] rfl (by simp only [go_sem, Nat.reduceBEq, Nat.reduceAdd, Nat.reduceEqDiff, Nat.reduceLeDiff, Nat.reduceLT, Nat.reduceMul]; with_reducible rfl) (by first | trivial | omega | (simp +contextual [inI64] <;> omega)) ?_
    refine wpA_ret (tR ?_)
    refine endL (l := [.d (msgs [])]) [] (.inr rfl) (by simp only [go_sem, Nat.reduceBEq, Nat.reduceAdd, Nat.reduceEqDiff, Nat.reduceLeDiff, Nat.reduceLT, Nat.reduceMul]; with_reducible rfl) trivial (by simp) trivial (by simp only [go_sem, Nat.reduceBEq, Nat.reduceAdd, Nat.reduceEqDiff, Nat.reduceLeDiff, Nat.reduceLT, Nat.reduceMul] <;> simp [snapL, snap, leL, le, leD, recs, ints, peers, msgs, i64, str, boo, node0]) ?_
    rw [sendTo, if_pos (show badT n = true from h0)]
    rfl
  · have h0 := hd
    have hB : badT n = false := h0
    have nB : ¬ badT n = true := by rw [hB]; simp
    have hE : electR n = true := by
      cases he : electR n with
      | true => rfl
      | false => simp [badT, he] at hB
    have hfew := electR_few hE
    refine wpA_skip ?_
    refine tN ?_
    refine wpA_seq ?_
    refine wpA_reg [1, 2, 16, 17, 18] [] rfl (by simp only [go_sem, Nat.reduceBEq, Nat.reduceAdd, Nat.reduceEqDiff, Nat.reduceLeDiff, Nat.reduceLT, Nat.reduceMul]; with_reducible rfl) (by first | trivial | omega | (simp +contextual [inI64] <;> omega)) ?_
    refine wpA_block ?_
    refine wpA_loop (fun j : Nat => ⟨[(1, .d (i64 to_)), (2, .ptr 0 0), (16, .d (peers n.peers)), (17, .d (i64 n.peers.length)), (18, .d (i64 j))], enum [.var 30 (nodeV n)] 0, 1⟩) (fun j => j ≤ n.peers.length ∧ allTo (okP n.peers to_) j = true) (fun j => n.peers.length - j) 0 (weak_of [0] trivial (by simp) (by simp only [go_sem, Int.natCast_zero, Nat.reduceBEq, Nat.reduceAdd, Nat.reduceEqDiff, Nat.reduceLeDiff, Nat.reduceLT, Nat.reduceMul]) (by simp only [go_sem, Int.natCast_zero, Nat.reduceBEq, Nat.reduceAdd, Nat.reduceEqDiff, Nat.reduceLeDiff, Nat.reduceLT, Nat.reduceMul])) ⟨Nat.zero_le _, rfl⟩ (fun j hj => ?_)
    obtain ⟨hj, hjv⟩ := hj
    refine wpA_reg [1, 2, 16, 17, 18, 19] [] rfl (by simp only [go_sem, Nat.reduceBEq, Nat.reduceAdd, Nat.reduceEqDiff, Nat.reduceLeDiff, Nat.reduceLT, Nat.reduceMul]; with_reducible rfl) (by first | trivial | omega | (simp +contextual [inI64] <;> omega)) ?_
    refine wpA_seq ?_
    refine wpA_cond rfl (fun hc => ?_) (fun hc => ?_)
    · have hc : j < n.peers.length := by simpa using hc
      have hg := peers_getD n.peers hc
      have e : ((j : Int) - 1).toNat = j - 1 := by omega
      have hg2 := peers_getD n.peers (j := j - 1) (by omega)
      have hl := peers_len n.peers
      refine wpA_skip ?_
      refine tN ?_
      refine wpA_seq ?_
      refine wpA_block ?_
      refine wpA_reg [1, 2, 6, 16, 17, 18] [] rfl (by simp only [go_sem, hg, hg2, e, encPeer, Nat.reduceBEq, Nat.reduceAdd, Nat.reduceEqDiff, Nat.reduceLeDiff, Nat.reduceLT, Nat.reduceMul]; with_reducible rfl) (by first | trivial | omega | (simp +contextual [inI64, hl, hc] <;> omega)) ?_
      refine wpA_reg [1, 2, 6, 16, 17, 18, 25] [] rfl (by simp only [go_sem, hg, hg2, e, encPeer, Nat.reduceBEq, Nat.reduceAdd, Nat.reduceEqDiff, Nat.reduceLeDiff, Nat.reduceLT, Nat.reduceMul]; with_reducible rfl) (by first | trivial | omega | (simp +contextual [inI64, hl, hc] <;> omega)) ?_
      refine wpA_cond rfl (fun hd => ?_) (fun hd => ?_)
      · have h1 := hd
        refine wpA_reg [4] [usePure (f70_walk n (pAt n.peers j) (electR_shaped hE) (by have := (electR_mem hE _ (pAt_mem hc)).2; omega)) rfl cb70] rfl (by simp only [go_sem, hg, hg2, e, encPeer, Nat.reduceBEq, Nat.reduceAdd, Nat.reduceEqDiff, Nat.reduceLeDiff, Nat.reduceLT, Nat.reduceMul]; with_reducible rfl) (by first | trivial | omega | (simp +contextual [inI64, hl, hc] <;> omega)) ?_
        refine wpA_ret (bR (tR (tR (bR (tR ?_)))))
        refine endD (.inr rfl) (by simp only [go_sem, Nat.reduceBEq, Nat.reduceAdd, Nat.reduceEqDiff, Nat.reduceLeDiff, Nat.reduceLT, Nat.reduceMul]; with_reducible rfl) ?_
        rw [sendTo, if_neg nB, show pIdx n.peers to_ = (j : Int) from first_some hc hjv (by rw [okP, hd]; rfl), if_pos (by omega)]
        simp only [go_sem, Nat.reduceBEq, Nat.reduceAdd, Nat.reduceEqDiff, Nat.reduceLeDiff, Nat.reduceLT, Nat.reduceMul]
        simp [encMsg, msgs, i64, boo, str, recs, ints]
      · have h1 := hd
        refine wpA_skip ?_
        refine bN (tN ?_)
        refine wpA_region [1, 2, 16, 17, 18] [] rfl (by simp only [go_sem, hg, hg2, e, encPeer, Nat.reduceBEq, Nat.reduceAdd, Nat.reduceEqDiff, Nat.reduceLeDiff, Nat.reduceLT, Nat.reduceMul]; with_reducible rfl) (by first | trivial | omega | (simp +contextual [inI64, hl, hc] <;> omega)) ?_
        refine tN ?_
        refine ⟨j + 1, ⟨hc, ?_⟩, by omega, weak_of [0] trivial (by simp) (by simp only [go_sem, Int.natCast_add, Int.natCast_one, Nat.reduceBEq, Nat.reduceAdd, Nat.reduceEqDiff, Nat.reduceLeDiff, Nat.reduceLT, Nat.reduceMul]) (by simp only [go_sem, Int.natCast_add, Int.natCast_one, Nat.reduceBEq, Nat.reduceAdd, Nat.reduceEqDiff, Nat.reduceLeDiff, Nat.reduceLT, Nat.reduceMul])⟩
        exact all_step hjv (by rw [okP, hd]; rfl)
    · have hc : j = n.peers.length := by simp at hc; omega
      subst hc
      have hall0 := hjv
      refine wpA_exit (tE (tE (bE ?_)))
      refine tN ?_
      refine wpA_reg [4] [] rfl (by simp only [go_sem, Nat.reduceBEq, Nat.reduceAdd, Nat.reduceEqDiff, Nat.reduceLeDiff, Nat.reduceLT, Nat.reduceMul]; with_reducible rfl) (by first | trivial | omega | (simp +contextual [inI64] <;> omega)) ?_
      refine wpA_ret ?_
      refine endL (l := [.d (msgs [])]) [] (.inr rfl) (by simp only [go_sem, Nat.reduceBEq, Nat.reduceAdd, Nat.reduceEqDiff, Nat.reduceLeDiff, Nat.reduceLT, Nat.reduceMul]; with_reducible rfl) trivial (by simp) trivial (by simp only [go_sem, Nat.reduceBEq, Nat.reduceAdd, Nat.reduceEqDiff, Nat.reduceLeDiff, Nat.reduceLT, Nat.reduceMul] <;> simp [snapL, snap, leL, le, leD, recs, ints, peers, msgs, i64, str, boo, node0]) ?_
      rw [sendTo, if_neg nB, show pIdx n.peers to_ = -1 from first_none hall0, if_neg (by omega)]
      rfl

theorem cb81 : callB Tryz.prog 81 = true := by kernel_rfl
theorem f81_walk (n : Node) (hE : electR n = true) : CallsA Tryz.prog 81 [.agg (nodeV n)] [] (leadV (leadR n)) [] := by
  have hs := electR_shaped hE
  have hV := votersOf_few hs
  have hl := last_small hs
  have hR : (leadR2 n).hard.log.recs.length ≤ 200 := (shaped_parts hs).2.2.2.2.1
  refine callsW_of (fn := Tryz.f81) [.cell 2 30, .tmp 3] Tryz.func81 rfl rfl (by show 1 ≤ 60; omega) ?_
  refine wpA_reg [1, 2] [] rfl (by simp only [go_sem, Nat.reduceBEq, Nat.reduceAdd, Nat.reduceEqDiff, Nat.reduceLeDiff, Nat.reduceLT, Nat.reduceMul]; with_reducible rfl) (by first | trivial | omega | (simp +contextual [inI64] <;> omega)) ?_
  refine wpA_seq ?_
  refine wpA_reg [1, 2, 11] [] rfl (by simp only [go_sem, Nat.reduceBEq, Nat.reduceAdd, Nat.reduceEqDiff, Nat.reduceLeDiff, Nat.reduceLT, Nat.reduceMul]; with_reducible rfl) (by first | trivial | omega | (simp +contextual [inI64] <;> omega)) ?_
  refine wpA_cond rfl (fun hd => ?_) (fun hd => ?_)
  · have h0 := hd
    refine wpA_reg [2, 3] [] rfl (by simp only [go_sem, Nat.reduceBEq, Nat.reduceAdd, Nat.reduceEqDiff, Nat.reduceLeDiff, Nat.reduceLT, Nat.reduceMul]; with_reducible rfl) (by first | trivial | omega | (simp +contextual [inI64] <;> omega)) ?_
    refine wpA_ret (tR ?_)
    refine endL (l := [.agg (nodeV n), .d (msgs [])]) [] (.inr rfl) (by simp only [go_sem, Nat.reduceBEq, Nat.reduceAdd, Nat.reduceEqDiff, Nat.reduceLeDiff, Nat.reduceLT, Nat.reduceMul]; with_reducible rfl) trivial (by simp) trivial (by simp only [go_sem, Nat.reduceBEq, Nat.reduceAdd, Nat.reduceEqDiff, Nat.reduceLeDiff, Nat.reduceLT, Nat.reduceMul] <;> simp [snapL, snap, leL, le, leD, recs, ints, peers, msgs, i64, str, boo, node0]) ?_
    rw [leadR, if_pos (of_decide_eq_true h0)]
    rfl
  · have h0 := hd
    have nR : ¬ n.role ≠ 1 := of_decide_eq_false h0
    refine wpA_skip ?_
    refine tN ?_
    refine wpA_reg [1, 2, 4] [] rfl (by simp only [go_sem, Nat.reduceBEq, Nat.reduceAdd, Nat.reduceEqDiff, Nat.reduceLeDiff, Nat.reduceLT, Nat.reduceMul]; with_reducible rfl) (by first | trivial | omega | (simp +contextual [inI64] <;> omega)) ?_
    refine wpA_seq ?_
    refine wpA_reg [1, 2, 4, 23, 24, 25] [usePure (f73_walk n hs) rfl cb73] rfl (by simp only [go_sem, Nat.reduceBEq, Nat.reduceAdd, Nat.reduceEqDiff, Nat.reduceLeDiff, Nat.reduceLT, Nat.reduceMul]; with_reducible rfl) (by first | trivial | omega | (simp +contextual [inI64] <;> omega)) ?_
    refine wpA_block ?_
    refine wpA_loop (fun j : Nat => ⟨[(1, .ptr 0 0), (2, .ptr 1 0), (4, .ptr 2 0), (23, .d (ints ((votersOf n.hard).1))), (24, .d (i64 (((votersOf n.hard).1).length))), (25, .d (i64 j))], enum [.var 30 (nodeV n), .var 30 [.d (i64 0), .d (i64 0), .d (i64 0), .d (i64 0), .d (i64 0), .d (.lit (.slice none 0 0)), .d (.lit (.string ⟨⟨[]⟩⟩)), .d (.lit (.slice none 0 0)), .d (i64 0), .d (i64 0), .d (i64 0), .d (i64 0), .d (.lit (.slice none 0 0)), .d (.lit (.slice none 0 0))], .var 30 [.d (i64 n.id), .d (i64 n.hard.term), .d (i64 n.hard.vote), .d (i64 n.hard.log.base), .d (i64 n.hard.log.bterm), .d (recs n.hard.log.recs), .d (str n.hard.snap), .d (ints n.hard.voters), .d (i64 2), .d (i64 n.id), .d (i64 2), .d (i64 n.commit), .d (.lit (.slice none 0 0)), .own 3], .row 70 3 (((newP (votersOf n.hard).1 n.id (lastP n.hard.log + 1) j).map encPeer))] 0, 4⟩) (fun j => j ≤ ((votersOf n.hard).1).length) (fun j => ((votersOf n.hard).1).length - j) 0 ((weak_ownV (k := 15) (i := 13) (el := 70) (sz := 3) rfl rfl).trans (weak_of [0, 1, 15, 21] trivial (by simp) (by simp only [go_sem, Int.natCast_zero, newP_zero, List.map_nil, Nat.reduceBEq, Nat.reduceAdd, Nat.reduceEqDiff, Nat.reduceLeDiff, Nat.reduceLT, Nat.reduceMul]) (by simp only [go_sem, Int.natCast_zero, newP_zero, List.map_nil, Nat.reduceBEq, Nat.reduceAdd, Nat.reduceEqDiff, Nat.reduceLeDiff, Nat.reduceLT, Nat.reduceMul]))) (Nat.zero_le _) (fun j hj => ?_)
    refine wpA_reg [1, 2, 4, 23, 24, 25, 26] [] rfl (by simp only [go_sem, Nat.reduceBEq, Nat.reduceAdd, Nat.reduceEqDiff, Nat.reduceLeDiff, Nat.reduceLT, Nat.reduceMul]; with_reducible rfl) (by first | trivial | omega | (simp +contextual [inI64] <;> omega)) ?_
    refine wpA_seq ?_
    refine wpA_cond rfl (fun hc => ?_) (fun hc => ?_)
    · have hc : j < ((votersOf n.hard).1).length := by simpa using hc
      have hg := ints_getD ((votersOf n.hard).1) hc
      have e : ((j : Int) - 1).toNat = j - 1 := by omega
      have hg2 := ints_getD ((votersOf n.hard).1) (j := j - 1) (by omega)
      have hnl := newP_len (votersOf n.hard).1 n.id (lastP n.hard.log + 1) j
      have hli := ints_len ((votersOf n.hard).1)
      refine wpA_skip ?_
      refine tN ?_
      refine wpA_seq ?_
      refine wpA_block ?_
      refine wpA_reg [1, 2, 4, 6, 23, 24, 25] [] rfl (by simp only [go_sem, hg, hg2, e, encI, Nat.reduceBEq, Nat.reduceAdd, Nat.reduceEqDiff, Nat.reduceLeDiff, Nat.reduceLT, Nat.reduceMul]; with_reducible rfl) (by first | trivial | omega | (simp +contextual [inI64, hli, hc] <;> omega)) ?_
      refine wpA_reg [1, 2, 4, 6, 23, 24, 25, 32] [] rfl (by simp only [go_sem, hg, hg2, e, encI, Nat.reduceBEq, Nat.reduceAdd, Nat.reduceEqDiff, Nat.reduceLeDiff, Nat.reduceLT, Nat.reduceMul]; with_reducible rfl) (by first | trivial | omega | (simp +contextual [inI64, hli, hc] <;> omega)) ?_
      refine wpA_cond rfl (fun hd => ?_) (fun hd => ?_)
      · have h1 := hd
        refine wpA_drawn [[4], [33], [6], [1], [36], [37], [35, 38], [39], [34, 40], [4], [41, 42]] [1, 2, 4, 23, 24, 25] [usePure (f45_walk n (logR_small (shaped_log hs))) rfl cb45] mx rfl (by simp only [go_sem, hg, hg2, e, encI, Nat.reduceBEq, Nat.reduceAdd, Nat.reduceEqDiff, Nat.reduceLeDiff, Nat.reduceLT, Nat.reduceMul]; with_reducible rfl) (by kernel_rfl) (by first | trivial | omega | (simp +contextual [inI64, hli, hc] <;> omega)) ?_
        refine bN (tN ?_)
        refine wpA_region [1, 2, 4, 23, 24, 25] [] rfl (by simp only [go_sem, hg, hg2, e, encI, Nat.reduceBEq, Nat.reduceAdd, Nat.reduceEqDiff, Nat.reduceLeDiff, Nat.reduceLT, Nat.reduceMul]; with_reducible rfl) (by first | trivial | omega | (simp +contextual [inI64, hli, hc] <;> omega)) ?_
        refine tN ?_
        refine ⟨j + 1, hc, by omega, weak_of [0, 1, 2, 20] trivial (by simp) (by simp only [go_sem, Int.natCast_add, Int.natCast_one, newP_yes hd, Nat.reduceBEq, Nat.reduceAdd, Nat.reduceEqDiff, Nat.reduceLeDiff, Nat.reduceLT, Nat.reduceMul]) (by simp only [go_sem, Int.natCast_add, Int.natCast_one, newP_yes hd, Nat.reduceBEq, Nat.reduceAdd, Nat.reduceEqDiff, Nat.reduceLeDiff, Nat.reduceLT, Nat.reduceMul])⟩
      · have h1 := hd
        refine wpA_skip ?_
        refine bN (tN ?_)
        refine wpA_region [1, 2, 4, 23, 24, 25] [] rfl (by simp only [go_sem, hg, hg2, e, encI, Nat.reduceBEq, Nat.reduceAdd, Nat.reduceEqDiff, Nat.reduceLeDiff, Nat.reduceLT, Nat.reduceMul]; with_reducible rfl) (by first | trivial | omega | (simp +contextual [inI64, hli, hc] <;> omega)) ?_
        refine tN ?_
        refine ⟨j + 1, hc, by omega, weak_of [0, 1, 2, 3] trivial (by simp) (by simp only [go_sem, Int.natCast_add, Int.natCast_one, newP_no hd, Nat.reduceBEq, Nat.reduceAdd, Nat.reduceEqDiff, Nat.reduceLeDiff, Nat.reduceLT, Nat.reduceMul]) (by simp only [go_sem, Int.natCast_add, Int.natCast_one, newP_no hd, Nat.reduceBEq, Nat.reduceAdd, Nat.reduceEqDiff, Nat.reduceLeDiff, Nat.reduceLT, Nat.reduceMul])⟩
    · have hc : j = ((votersOf n.hard).1).length := by simp at hc; omega
      subst hc
      refine wpA_exit (tE (tE (bE ?_)))
      refine tN ?_
      refine WpA.weak (s' := ⟨[(1, .ptr 0 0), (2, .ptr 1 0), (4, .ptr 2 0)], enum [.var 30 (nodeV n), .var 30 [.d (i64 0), .d (i64 0), .d (i64 0), .d (i64 0), .d (i64 0), .d (.lit (.slice none 0 0)), .d (.lit (.string ⟨⟨[]⟩⟩)), .d (.lit (.slice none 0 0)), .d (i64 0), .d (i64 0), .d (i64 0), .d (i64 0), .d (.lit (.slice none 0 0)), .d (.lit (.slice none 0 0))], .var 30 (nodeV (leadR2 n))] 0, 3⟩) ?_ (weak_of [0, 1, 2] trivial (by simp) (by simp only [go_sem, leadR2_id, leadR2_hard, leadR2_role, leadR2_lead, leadR2_timer, leadR2_commit, leadR2_got, leadR2_peers, List.map_nil, Nat.reduceBEq, Nat.reduceAdd, Nat.reduceEqDiff, Nat.reduceLeDiff, Nat.reduceLT, Nat.reduceMul]) (by simp only [go_sem, leadR2_id, leadR2_hard, leadR2_role, leadR2_lead, leadR2_timer, leadR2_commit, leadR2_got, leadR2_peers, List.map_nil, Nat.reduceBEq, Nat.reduceAdd, Nat.reduceEqDiff, Nat.reduceLeDiff, Nat.reduceLT, Nat.reduceMul]))
      refine wpA_reg [2, 4, 7, 8] [usePure (f43_C n hR) rfl cb43] rfl (by simp only [go_sem, recL0, recL, List.map_nil, Nat.reduceBEq, Nat.reduceAdd, Nat.reduceEqDiff, Nat.reduceLeDiff, Nat.reduceLT, Nat.reduceMul]; with_reducible rfl) (by first | trivial | omega | (simp +contextual [inI64] <;> omega)) ?_
      refine wpA_seq ?_
      refine wpA_reg [2, 4, 7, 53] [] rfl (by simp only [go_sem, Nat.reduceBEq, Nat.reduceAdd, Nat.reduceEqDiff, Nat.reduceLeDiff, Nat.reduceLT, Nat.reduceMul]; with_reducible rfl) (by first | trivial | omega | (simp +contextual [inI64] <;> omega)) ?_
      refine wpA_cond rfl (fun hd => ?_) (fun hd => ?_)
      · have h1 := hd
        have hA := able_leadR3 hE h1
        refine wpA_region [2, 4] [] rfl (by simp only [go_sem, Nat.reduceBEq, Nat.reduceAdd, Nat.reduceEqDiff, Nat.reduceLeDiff, Nat.reduceLT, Nat.reduceMul]; with_reducible rfl) (by first | trivial | omega | (simp +contextual [inI64] <;> omega)) ?_
        refine tN ?_
        refine wpA_reg [2, 4] [usePure (f46_walk (leadR3 n) hA.sh (by have := hA.few; omega)) rfl cb46] rfl (by simp only [go_sem, Nat.reduceBEq, Nat.reduceAdd, Nat.reduceEqDiff, Nat.reduceLeDiff, Nat.reduceLT, Nat.reduceMul]; with_reducible rfl) (by first | trivial | omega | (simp +contextual [inI64] <;> omega)) ?_
        refine wpA_regD [[4], [4], [58], [2, 57], [59]] [2, 3] [usePure (f47_walk (sureR (leadR3 n)) hA.sureR.sh (by have := hA.sureR.few; omega) (fun p hp => by have := hA.sureR.nx p hp; omega)) rfl cb47] mx rfl (by simp only [go_sem, Nat.reduceBEq, Nat.reduceAdd, Nat.reduceEqDiff, Nat.reduceLeDiff, Nat.reduceLT, Nat.reduceMul]; with_reducible rfl) (by kernel_rfl) (by first | trivial | omega | (simp +contextual [inI64] <;> omega)) ?_
        refine wpA_ret ?_
        refine endD (.inr rfl) (by simp only [go_sem, Nat.reduceBEq, Nat.reduceAdd, Nat.reduceEqDiff, Nat.reduceLeDiff, Nat.reduceLT, Nat.reduceMul]; with_reducible rfl) ?_
        rw [leadR, if_neg nR, if_pos h1, leadRD]
        simp only [go_sem, Nat.reduceBEq, Nat.reduceAdd, Nat.reduceEqDiff, Nat.reduceLeDiff, Nat.reduceLT, Nat.reduceMul]
      · have h1 := hd
        have hA := able_leadR2 hE
        refine wpA_skip ?_
        refine tN ?_
        refine wpA_reg [2, 4] [usePure (f46_walk (leadR2 n) hA.sh (by have := hA.few; omega)) rfl cb46] rfl (by simp only [go_sem, Nat.reduceBEq, Nat.reduceAdd, Nat.reduceEqDiff, Nat.reduceLeDiff, Nat.reduceLT, Nat.reduceMul]; with_reducible rfl) (by first | trivial | omega | (simp +contextual [inI64] <;> omega)) ?_
        refine wpA_regD [[4], [4], [58], [2, 57], [59]] [2, 3] [usePure (f47_walk (sureR (leadR2 n)) hA.sureR.sh (by have := hA.sureR.few; omega) (fun p hp => by have := hA.sureR.nx p hp; omega)) rfl cb47] mx rfl (by simp only [go_sem, Nat.reduceBEq, Nat.reduceAdd, Nat.reduceEqDiff, Nat.reduceLeDiff, Nat.reduceLT, Nat.reduceMul]; with_reducible rfl) (by kernel_rfl) (by first | trivial | omega | (simp +contextual [inI64] <;> omega)) ?_
        refine wpA_ret ?_
        refine endD (.inr rfl) (by simp only [go_sem, Nat.reduceBEq, Nat.reduceAdd, Nat.reduceEqDiff, Nat.reduceLeDiff, Nat.reduceLT, Nat.reduceMul]; with_reducible rfl) ?_
        rw [leadR, if_neg nR, if_neg (by rw [h1]; simp), leadRD]
        simp only [go_sem, Nat.reduceBEq, Nat.reduceAdd, Nat.reduceEqDiff, Nat.reduceLeDiff, Nat.reduceLT, Nat.reduceMul]

theorem cb53 : callB Tryz.prog 53 = true := by kernel_rfl
theorem f53_no (n : Node) (l : List Msg) : CallsA Tryz.prog 53 [.agg (nodeV n), .own 0, .d (boo false)] [.row 33 11 (l.map encMsg)] (.tup [.agg (nodeV n), .own 0, .d (i64 0)]) [.row 33 11 (l.map encMsg)] := by
  refine callsW_of (fn := Tryz.f53) [.cell 6 30, .tmp 7, .tmp 8] Tryz.func53 rfl rfl (by show 3 ≤ 23; omega) ?_
  refine wpA_reg [1, 2, 3, 6] [] rfl (by simp only [go_sem, Nat.reduceBEq, Nat.reduceAdd, Nat.reduceEqDiff, Nat.reduceLeDiff, Nat.reduceLT, Nat.reduceMul]; with_reducible rfl) (by first | trivial | omega | (simp +contextual [inI64] <;> omega)) ?_
  refine wpA_seq ?_
  refine wpA_reg [1, 3, 6, 11] [] rfl (by simp only [go_sem, Nat.reduceBEq, Nat.reduceAdd, Nat.reduceEqDiff, Nat.reduceLeDiff, Nat.reduceLT, Nat.reduceMul]; with_reducible rfl) (by first | trivial | omega | (simp +contextual [inI64] <;> omega)) ?_
  refine wpA_cond rfl (fun hd => ?_) (fun hd => ?_)
  · cases hd
  · have h0 := hd
    refine wpA_skip ?_
    refine tN ?_
    refine wpA_reg [6, 7, 8] [] rfl (by simp only [go_sem, Nat.reduceBEq, Nat.reduceAdd, Nat.reduceEqDiff, Nat.reduceLeDiff, Nat.reduceLT, Nat.reduceMul]; with_reducible rfl) (by first | trivial | omega | (simp +contextual [inI64] <;> omega)) ?_
    refine wpA_ret ?_
    refine endB [0] (.inr rfl) (by simp only [go_sem, Nat.reduceBEq, Nat.reduceAdd, Nat.reduceEqDiff, Nat.reduceLeDiff, Nat.reduceLT, Nat.reduceMul]; with_reducible rfl) (by simp [firsts]) (by simp) (by simp only [go_sem, Nat.reduceBEq, Nat.reduceAdd, Nat.reduceEqDiff, Nat.reduceLeDiff, Nat.reduceLT, Nat.reduceMul]) ?_
    simp only [go_sem, Nat.reduceBEq, Nat.reduceAdd, Nat.reduceEqDiff, Nat.reduceLeDiff, Nat.reduceLT, Nat.reduceMul]

theorem f53_yes (n : Node) (l : List Msg) (hE : electR n = true) (hlen : l.length + (leadR n).2.length ≤ 1000) : CallsA Tryz.prog 53 [.agg (nodeV n), .own 0, .d (boo true)] [.row 33 11 (l.map encMsg)] (.tup [.agg (nodeV (leadR n).1), .own 1, .d (i64 0)]) [.dead, .row 33 11 ((l ++ (leadR n).2).map encMsg)] := by
  have hml := msgs_len (leadR n).2
  refine callsW_of (fn := Tryz.f53) [.cell 6 30, .tmp 7, .tmp 8] Tryz.func53 rfl rfl (by show 3 ≤ 23; omega) ?_
  refine wpA_reg [1, 2, 3, 6] [] rfl (by simp only [go_sem, Nat.reduceBEq, Nat.reduceAdd, Nat.reduceEqDiff, Nat.reduceLeDiff, Nat.reduceLT, Nat.reduceMul]; with_reducible rfl) (by first | trivial | omega | (simp +contextual [inI64, hml] <;> omega)) ?_
  refine wpA_seq ?_
  refine wpA_reg [1, 3, 6, 11] [] rfl (by simp only [go_sem, Nat.reduceBEq, Nat.reduceAdd, Nat.reduceEqDiff, Nat.reduceLeDiff, Nat.reduceLT, Nat.reduceMul]; with_reducible rfl) (by first | trivial | omega | (simp +contextual [inI64, hml] <;> omega)) ?_
  refine wpA_cond rfl (fun hd => ?_) (fun hd => ?_)
  · have h0 := hd
    refine wpA_reg [1, 6, 9, 10] [usePure (f81_walk n hE) rfl cb81] rfl (by simp only [go_sem, Nat.reduceBEq, Nat.reduceAdd, Nat.reduceEqDiff, Nat.reduceLeDiff, Nat.reduceLT, Nat.reduceMul]; with_reducible rfl) (by first | trivial | omega | (simp +contextual [inI64, hml] <;> omega)) ?_
    refine wpA_regD [[9], [1], [10], [18, 19], [6, 17], [20], []] [6, 7, 8] [] mx rfl (by simp only [go_sem, Nat.reduceBEq, Nat.reduceAdd, Nat.reduceEqDiff, Nat.reduceLeDiff, Nat.reduceLT, Nat.reduceMul]; with_reducible rfl) (by kernel_rfl) (by first | trivial | omega | (simp +contextual [inI64, hml] <;> omega)) ?_
    refine wpA_ret (tR ?_)
    refine endB [0, 17] (.inr rfl) (by simp only [go_sem, Nat.reduceBEq, Nat.reduceAdd, Nat.reduceEqDiff, Nat.reduceLeDiff, Nat.reduceLT, Nat.reduceMul]; with_reducible rfl) (by simp [firsts]) (by simp) (by simp only [go_sem, List.map_append, Nat.reduceBEq, Nat.reduceAdd, Nat.reduceEqDiff, Nat.reduceLeDiff, Nat.reduceLT, Nat.reduceMul]) ?_
    simp only [go_sem, Nat.reduceBEq, Nat.reduceAdd, Nat.reduceEqDiff, Nat.reduceLeDiff, Nat.reduceLT, Nat.reduceMul]
  · cases hd
theorem cb15 : callB Tryz.prog 15 = true := by kernel_rfl
theorem f15_walk (n : Node) (x : Int) : CallsA Tryz.prog 15 [.agg (nodeV n), .d (i64 x)] [] (tickV (tickF n x)) [] := by
  refine callsW_of (fn := Tryz.f15) [.cell 4 30, .tmp 5, .tmp 6] Tryz.func15 rfl rfl (by show 2 ≤ 65; omega) ?_
  refine wpA_reg [1, 2, 4] [] rfl (by simp only [go_sem, Nat.reduceBEq, Nat.reduceAdd, Nat.reduceEqDiff, Nat.reduceLeDiff, Nat.reduceLT, Nat.reduceMul]; with_reducible rfl) (by first | trivial | omega | (simp +contextual [inI64] <;> omega)) ?_
  refine wpA_seq ?_
  refine wpA_reg [1, 2, 4, 16] [usePure (f19_walk n) rfl cb19] rfl (by simp only [go_sem, Nat.reduceBEq, Nat.reduceAdd, Nat.reduceEqDiff, Nat.reduceLeDiff, Nat.reduceLT, Nat.reduceMul]; with_reducible rfl) (by first | trivial | omega | (simp +contextual [inI64] <;> omega)) ?_
  refine wpA_cond rfl (fun hd => ?_) (fun hd => ?_)
  · have h0 := hd
    rw [show tickF n x = _ from by rw [tickF, if_pos (by simpa using h0)]]
    refine wpA_reg [4, 5, 6] [] rfl (by simp only [go_sem, Nat.reduceBEq, Nat.reduceAdd, Nat.reduceEqDiff, Nat.reduceLeDiff, Nat.reduceLT, Nat.reduceMul]; with_reducible rfl) (by first | trivial | omega | (simp +contextual [inI64] <;> omega)) ?_
    refine wpA_ret (tR ?_)
    refine endL (l := [.agg (nodeV node0), .d (msgs []), .d (i64 1)]) [] (.inr rfl) (by simp only [go_sem, Nat.reduceBEq, Nat.reduceAdd, Nat.reduceEqDiff, Nat.reduceLeDiff, Nat.reduceLT, Nat.reduceMul]; with_reducible rfl) trivial (by simp) trivial (by simp only [go_sem, Nat.reduceBEq, Nat.reduceAdd, Nat.reduceEqDiff, Nat.reduceLeDiff, Nat.reduceLT, Nat.reduceMul] <;> simp [snapL, snap, leL, le, leD, recs, ints, peers, msgs, i64, str, boo, node0]) ?_
    rfl
  · have h0 := hd
    have hE : electR n = true := by simpa using h0
    have nE : ¬ electR n = false := by rw [hE]; simp
    have hTm := electR_tim hE
    refine wpA_skip ?_
    refine tN ?_
    refine wpA_seq ?_
    refine wpA_reg [1, 2, 4, 20] [] rfl (by simp only [go_sem, Nat.reduceBEq, Nat.reduceAdd, Nat.reduceEqDiff, Nat.reduceLeDiff, Nat.reduceLT, Nat.reduceMul]; with_reducible rfl) (by first | trivial | omega | (simp +contextual [inI64] <;> omega)) ?_
    refine wpA_cond rfl (fun hd => ?_) (fun hd => ?_)
    · have h1 := hd
      rw [show tickF n x = _ from by rw [tickF, if_neg nE, if_pos (of_decide_eq_true h1)]]
      refine wpA_reg [2, 4] [] rfl (by simp only [go_sem, Nat.reduceBEq, Nat.reduceAdd, Nat.reduceEqDiff, Nat.reduceLeDiff, Nat.reduceLT, Nat.reduceMul]; with_reducible rfl) (by first | trivial | omega | (simp +contextual [inI64] <;> omega)) ?_
      refine wpA_reg [4, 5, 6] [] rfl (by simp only [go_sem, Nat.reduceBEq, Nat.reduceAdd, Nat.reduceEqDiff, Nat.reduceLeDiff, Nat.reduceLT, Nat.reduceMul]; with_reducible rfl) (by first | trivial | omega | (simp +contextual [inI64] <;> omega)) ?_
      refine wpA_ret (tR ?_)
      refine endL (l := [.agg (nodeV (stand1 n (n.timer - 1))), .d (msgs []), .d (i64 0)]) [] (.inr rfl) (by simp only [go_sem, Nat.reduceBEq, Nat.reduceAdd, Nat.reduceEqDiff, Nat.reduceLeDiff, Nat.reduceLT, Nat.reduceMul]; with_reducible rfl) trivial (by simp) trivial (by simp only [go_sem, stand1_id, stand1_hard, stand1_role, stand1_lead, stand1_timer, stand1_commit, stand1_got, stand1_peers, Nat.reduceBEq, Nat.reduceAdd, Nat.reduceEqDiff, Nat.reduceLeDiff, Nat.reduceLT, Nat.reduceMul] <;> simp [snapL, snap, leL, le, leD, recs, ints, peers, msgs, i64, str, boo, node0, stand1_id, stand1_hard, stand1_role, stand1_lead, stand1_timer, stand1_commit, stand1_got, stand1_peers]) ?_
      rfl
    · have h1 := hd
      have nT := of_decide_eq_false h1
      refine wpA_skip ?_
      refine tN ?_
      refine wpA_seq ?_
      refine wpA_reg [1, 2, 4, 28] [] rfl (by simp only [go_sem, Nat.reduceBEq, Nat.reduceAdd, Nat.reduceEqDiff, Nat.reduceLeDiff, Nat.reduceLT, Nat.reduceMul]; with_reducible rfl) (by first | trivial | omega | (simp +contextual [inI64] <;> omega)) ?_
      refine wpA_cond rfl (fun hd => ?_) (fun hd => ?_)
      · have h2 := hd
        have k2 := of_decide_eq_true h2
        rw [show tickF n x = _ from by rw [tickF, if_neg nE, if_neg nT, if_pos k2]]
        have hE1 := electR_timer (d := 2) hE (by omega)
        have hfew := electR_few hE
        refine wpA_reg [2, 4] [] rfl (by simp only [go_sem, Nat.reduceBEq, Nat.reduceAdd, Nat.reduceEqDiff, Nat.reduceLeDiff, Nat.reduceLT, Nat.reduceMul]; with_reducible rfl) (by first | trivial | omega | (simp +contextual [inI64] <;> omega)) ?_
        refine wpA_reg [2, 4, 7] [] rfl (by simp only [go_sem, Nat.reduceBEq, Nat.reduceAdd, Nat.reduceEqDiff, Nat.reduceLeDiff, Nat.reduceLT, Nat.reduceMul]; with_reducible rfl) (by first | trivial | omega | (simp +contextual [inI64] <;> omega)) ?_
        refine wpA_seq ?_
        refine wpA_reg [2, 4, 7, 31, 32, 33] [] rfl (by simp only [go_sem, Nat.reduceBEq, Nat.reduceAdd, Nat.reduceEqDiff, Nat.reduceLeDiff, Nat.reduceLT, Nat.reduceMul]; with_reducible rfl) (by first | trivial | omega | (simp +contextual [inI64] <;> omega)) ?_
        refine wpA_block ?_
        refine wpA_loop (fun j : Nat => ⟨[(2, .ptr 0 0), (4, .ptr 1 0), (7, .own 2), (31, .d (peers n.peers)), (32, .d (i64 n.peers.length)), (33, .d (i64 j))], enum [.var 30 (nodeV (stand1 n 2)), .var 30 [.d (i64 0), .d (i64 0), .d (i64 0), .d (i64 0), .d (i64 0), .d (.lit (.slice none 0 0)), .d (.lit (.string ⟨⟨[]⟩⟩)), .d (.lit (.slice none 0 0)), .d (i64 0), .d (i64 0), .d (i64 0), .d (i64 0), .d (.lit (.slice none 0 0)), .d (.lit (.slice none 0 0))], .row 33 11 ((((n.peers.take j).map (sendF (stand1 n 2))).map encMsg))] 0, 3⟩) (fun j => j ≤ n.peers.length) (fun j => n.peers.length - j) 0 ((weak_own (k := 7) (e := 33) (sz := 11) rfl).trans (weak_of [0, 1, 20] trivial (by simp) (by simp only [go_sem, Int.natCast_zero, List.take_zero, List.map_nil, stand1_id, stand1_hard, stand1_role, stand1_lead, stand1_timer, stand1_commit, stand1_got, stand1_peers, Nat.reduceBEq, Nat.reduceAdd, Nat.reduceEqDiff, Nat.reduceLeDiff, Nat.reduceLT, Nat.reduceMul]) (by simp only [go_sem, Int.natCast_zero, List.take_zero, List.map_nil, stand1_id, stand1_hard, stand1_role, stand1_lead, stand1_timer, stand1_commit, stand1_got, stand1_peers, Nat.reduceBEq, Nat.reduceAdd, Nat.reduceEqDiff, Nat.reduceLeDiff, Nat.reduceLT, Nat.reduceMul]))) (Nat.zero_le _) (fun j hj => ?_)
        refine wpA_reg [2, 4, 7, 31, 32, 33, 34] [] rfl (by simp only [go_sem, Nat.reduceBEq, Nat.reduceAdd, Nat.reduceEqDiff, Nat.reduceLeDiff, Nat.reduceLT, Nat.reduceMul]; with_reducible rfl) (by first | trivial | omega | (simp +contextual [inI64] <;> omega)) ?_
        refine wpA_seq ?_
        refine wpA_cond rfl (fun hc => ?_) (fun hc => ?_)
        · have hc : j < n.peers.length := by simpa using hc
          have hg := peers_getD n.peers hc
          have e : ((j : Int) - 1).toNat = j - 1 := by omega
          have hg2 := peers_getD n.peers (j := j - 1) (by omega)
          have hsn := send_one hE1 k2 hc
          have hml := msgs_len [sendF (stand1 n 2) (pAt n.peers j)]
          have hl := peers_len n.peers
          refine wpA_skip ?_
          refine tN ?_
          refine wpA_seq ?_
          refine wpA_block ?_
          refine wpA_reg [2, 4, 7, 9, 31, 32, 33] [] rfl (by simp only [go_sem, hg, hg2, e, encPeer, Nat.reduceBEq, Nat.reduceAdd, Nat.reduceEqDiff, Nat.reduceLeDiff, Nat.reduceLT, Nat.reduceMul]; with_reducible rfl) (by first | trivial | omega | (simp +contextual [inI64, hl, hc] <;> omega)) ?_
          refine wpA_region [2, 4, 7, 31, 32, 33] [usePure (f50_walk (stand1 n 2) (pAt n.peers j).id) rfl cb50] rfl (by simp only [go_sem, hsn, List.map_cons, List.map_nil, hg, hg2, e, encPeer, Nat.reduceBEq, Nat.reduceAdd, Nat.reduceEqDiff, Nat.reduceLeDiff, Nat.reduceLT, Nat.reduceMul]; with_reducible rfl) (by first | trivial | omega | (simp +contextual [inI64, hl, hc, hml] <;> omega)) ?_
          refine bN (tN ?_)
          refine wpA_region [2, 4, 7, 31, 32, 33] [] rfl (by simp only [go_sem, hg, hg2, e, encPeer, Nat.reduceBEq, Nat.reduceAdd, Nat.reduceEqDiff, Nat.reduceLeDiff, Nat.reduceLT, Nat.reduceMul]; with_reducible rfl) (by first | trivial | omega | (simp +contextual [inI64, hl, hc] <;> omega)) ?_
          refine tN ?_
          refine ⟨j + 1, hc, by omega, weak_of [0, 1, 13] trivial (by simp) (by simp only [go_sem, Int.natCast_add, Int.natCast_one, msgs_nextE (f := sendF (stand1 n 2)) hc, Nat.reduceBEq, Nat.reduceAdd, Nat.reduceEqDiff, Nat.reduceLeDiff, Nat.reduceLT, Nat.reduceMul]) (by simp only [go_sem, Int.natCast_add, Int.natCast_one, msgs_nextE (f := sendF (stand1 n 2)) hc, Nat.reduceBEq, Nat.reduceAdd, Nat.reduceEqDiff, Nat.reduceLeDiff, Nat.reduceLT, Nat.reduceMul])⟩
        · have hc : j = n.peers.length := by simp at hc; omega
          subst hc
          rw [List.take_length]
          refine wpA_exit (tE (tE (bE ?_)))
          refine tN ?_
          refine wpA_reg [4, 5, 6] [] rfl (by simp only [go_sem, Nat.reduceBEq, Nat.reduceAdd, Nat.reduceEqDiff, Nat.reduceLeDiff, Nat.reduceLT, Nat.reduceMul]; with_reducible rfl) (by first | trivial | omega | (simp +contextual [inI64] <;> omega)) ?_
          refine wpA_ret (tR ?_)
          refine endD (.inr rfl) (by simp only [go_sem, Nat.reduceBEq, Nat.reduceAdd, Nat.reduceEqDiff, Nat.reduceLeDiff, Nat.reduceLT, Nat.reduceMul]; with_reducible rfl) ?_
          simp only [go_sem, Nat.reduceBEq, Nat.reduceAdd, Nat.reduceEqDiff, Nat.reduceLeDiff, Nat.reduceLT, Nat.reduceMul]
      · have h2 := hd
        have k2 := of_decide_eq_false h2
        refine wpA_skip ?_
        refine tN ?_
        refine wpA_reg [2, 4, 10, 11] [useAt [] (f51_walk n x) (id rfl) (id rfl) cb51] rfl (by simp only [go_sem, Nat.reduceBEq, Nat.reduceAdd, Nat.reduceEqDiff, Nat.reduceLeDiff, Nat.reduceLT, Nat.reduceMul]; with_reducible rfl) (by first | trivial | omega | (simp +contextual [inI64] <;> omega)) ?_
        refine wpA_seq ?_
        refine wpA_reg [2, 4, 10, 53] [] rfl (by simp only [go_sem, Nat.reduceBEq, Nat.reduceAdd, Nat.reduceEqDiff, Nat.reduceLeDiff, Nat.reduceLT, Nat.reduceMul]; with_reducible rfl) (by first | trivial | omega | (simp +contextual [inI64] <;> omega)) ?_
        refine wpA_cond rfl (fun hd => ?_) (fun hd => ?_)
        · have h3 := hd
          rw [show tickF n x = _ from by rw [tickF, if_neg nE, if_neg nT, if_neg k2, if_pos h3]]
          have hml := msgs_len (leadF (standF n x).1).2
          have hll := lead_lenF n x
          refine wpA_reg [2, 4, 10, 12, 13] [usePure (f35_walk (standF n x).1) rfl cb35] rfl (by simp only [go_sem, Nat.reduceBEq, Nat.reduceAdd, Nat.reduceEqDiff, Nat.reduceLeDiff, Nat.reduceLT, Nat.reduceMul]; with_reducible rfl) (by first | trivial | omega | (simp +contextual [inI64] <;> omega)) ?_
          refine wpA_drawn [[12], [10], [13], [60, 61], [2, 59], [62]] [2, 4, 10] [] mx rfl (by simp only [go_sem, Nat.reduceBEq, Nat.reduceAdd, Nat.reduceEqDiff, Nat.reduceLeDiff, Nat.reduceLT, Nat.reduceMul]; with_reducible rfl) (by kernel_rfl) (by first | trivial | omega | (simp +contextual [inI64] <;> omega)) ?_
          refine tN ?_
          refine wpA_reg [4, 5, 6] [] rfl (by simp only [go_sem, Nat.reduceBEq, Nat.reduceAdd, Nat.reduceEqDiff, Nat.reduceLeDiff, Nat.reduceLT, Nat.reduceMul]; with_reducible rfl) (by first | trivial | omega | (simp +contextual [inI64] <;> omega)) ?_
          refine wpA_ret ?_
          refine endD (.inr rfl) (by simp only [go_sem, Nat.reduceBEq, Nat.reduceAdd, Nat.reduceEqDiff, Nat.reduceLeDiff, Nat.reduceLT, Nat.reduceMul]; with_reducible rfl) ?_
          simp only [go_sem, List.map_append, Nat.reduceBEq, Nat.reduceAdd, Nat.reduceEqDiff, Nat.reduceLeDiff, Nat.reduceLT, Nat.reduceMul]
        · have h3 := hd
          rw [show tickF n x = _ from by rw [tickF, if_neg nE, if_neg nT, if_neg k2, if_neg (by rw [h3]; simp)]]
          refine wpA_skip ?_
          refine tN ?_
          refine wpA_reg [4, 5, 6] [] rfl (by simp only [go_sem, Nat.reduceBEq, Nat.reduceAdd, Nat.reduceEqDiff, Nat.reduceLeDiff, Nat.reduceLT, Nat.reduceMul]; with_reducible rfl) (by first | trivial | omega | (simp +contextual [inI64] <;> omega)) ?_
          refine wpA_ret ?_
          refine endD (.inr rfl) (by simp only [go_sem, Nat.reduceBEq, Nat.reduceAdd, Nat.reduceEqDiff, Nat.reduceLeDiff, Nat.reduceLT, Nat.reduceMul]; with_reducible rfl) ?_
          simp only [go_sem, Nat.reduceBEq, Nat.reduceAdd, Nat.reduceEqDiff, Nat.reduceLeDiff, Nat.reduceLT, Nat.reduceMul]

theorem cb16 : callB Tryz.prog 16 = true := by kernel_rfl
theorem f16_walk (n : Node) (x : Int) (hE3 : electR n = true → (standR n x).2.2 = true → electR (standR n x).1 = true) : CallsA Tryz.prog 16 [.agg (nodeV n), .d (i64 x)] [] (tickV (tickR n x)) [] := by
  refine callsW_of (fn := Tryz.f16) [.cell 4 30, .tmp 5, .tmp 6] Tryz.func16 rfl rfl (by show 2 ≤ 43; omega) ?_
  refine wpA_reg [1, 2, 4] [] rfl (by simp only [go_sem, Nat.reduceBEq, Nat.reduceAdd, Nat.reduceEqDiff, Nat.reduceLeDiff, Nat.reduceLT, Nat.reduceMul]; with_reducible rfl) (by first | trivial | omega | (simp +contextual [inI64] <;> omega)) ?_
  refine wpA_seq ?_
  refine wpA_reg [1, 2, 4, 12] [usePure (f7_walk n) rfl cb7] rfl (by simp only [go_sem, Nat.reduceBEq, Nat.reduceAdd, Nat.reduceEqDiff, Nat.reduceLeDiff, Nat.reduceLT, Nat.reduceMul]; with_reducible rfl) (by first | trivial | omega | (simp +contextual [inI64] <;> omega)) ?_
  refine wpA_cond rfl (fun hd => ?_) (fun hd => ?_)
  · have h0 := hd
    rw [show tickR n x = _ from by rw [tickR, if_pos (by simpa using h0)]]
    refine wpA_reg [4, 5, 6] [] rfl (by simp only [go_sem, Nat.reduceBEq, Nat.reduceAdd, Nat.reduceEqDiff, Nat.reduceLeDiff, Nat.reduceLT, Nat.reduceMul]; with_reducible rfl) (by first | trivial | omega | (simp +contextual [inI64] <;> omega)) ?_
    refine wpA_ret (tR ?_)
    refine endL (l := [.agg (nodeV node0), .d (msgs []), .d (i64 1)]) [] (.inr rfl) (by simp only [go_sem, Nat.reduceBEq, Nat.reduceAdd, Nat.reduceEqDiff, Nat.reduceLeDiff, Nat.reduceLT, Nat.reduceMul]; with_reducible rfl) trivial (by simp) trivial (by simp only [go_sem, Nat.reduceBEq, Nat.reduceAdd, Nat.reduceEqDiff, Nat.reduceLeDiff, Nat.reduceLT, Nat.reduceMul] <;> simp [snapL, snap, leL, le, leD, recs, ints, peers, msgs, i64, str, boo, node0]) ?_
    rfl
  · have h0 := hd
    have hR : refR n = true := by simpa using h0
    have hE : electR n = true := by rw [elect_law]; exact hR
    have nE : ¬ refR n = false := by rw [hR]; simp
    have hTm := electR_tim hE
    refine wpA_skip ?_
    refine tN ?_
    refine wpA_seq ?_
    refine wpA_reg [1, 2, 4, 16] [] rfl (by simp only [go_sem, Nat.reduceBEq, Nat.reduceAdd, Nat.reduceEqDiff, Nat.reduceLeDiff, Nat.reduceLT, Nat.reduceMul]; with_reducible rfl) (by first | trivial | omega | (simp +contextual [inI64] <;> omega)) ?_
    refine wpA_cond rfl (fun hd => ?_) (fun hd => ?_)
    · have h1 := hd
      rw [show tickR n x = _ from by rw [tickR, if_neg nE, if_pos (of_decide_eq_true h1)]]
      refine wpA_reg [2, 4] [] rfl (by simp only [go_sem, Nat.reduceBEq, Nat.reduceAdd, Nat.reduceEqDiff, Nat.reduceLeDiff, Nat.reduceLT, Nat.reduceMul]; with_reducible rfl) (by first | trivial | omega | (simp +contextual [inI64] <;> omega)) ?_
      refine wpA_reg [4, 5, 6] [] rfl (by simp only [go_sem, Nat.reduceBEq, Nat.reduceAdd, Nat.reduceEqDiff, Nat.reduceLeDiff, Nat.reduceLT, Nat.reduceMul]; with_reducible rfl) (by first | trivial | omega | (simp +contextual [inI64] <;> omega)) ?_
      refine wpA_ret (tR ?_)
      refine endL (l := [.agg (nodeV (stand1 n (n.timer - 1))), .d (msgs []), .d (i64 0)]) [] (.inr rfl) (by simp only [go_sem, Nat.reduceBEq, Nat.reduceAdd, Nat.reduceEqDiff, Nat.reduceLeDiff, Nat.reduceLT, Nat.reduceMul]; with_reducible rfl) trivial (by simp) trivial (by simp only [go_sem, stand1_id, stand1_hard, stand1_role, stand1_lead, stand1_timer, stand1_commit, stand1_got, stand1_peers, Nat.reduceBEq, Nat.reduceAdd, Nat.reduceEqDiff, Nat.reduceLeDiff, Nat.reduceLT, Nat.reduceMul] <;> simp [snapL, snap, leL, le, leD, recs, ints, peers, msgs, i64, str, boo, node0, stand1_id, stand1_hard, stand1_role, stand1_lead, stand1_timer, stand1_commit, stand1_got, stand1_peers]) ?_
      rfl
    · have h1 := hd
      have nT := of_decide_eq_false h1
      refine wpA_skip ?_
      refine tN ?_
      refine wpA_seq ?_
      refine wpA_reg [1, 2, 4, 24] [] rfl (by simp only [go_sem, Nat.reduceBEq, Nat.reduceAdd, Nat.reduceEqDiff, Nat.reduceLeDiff, Nat.reduceLT, Nat.reduceMul]; with_reducible rfl) (by first | trivial | omega | (simp +contextual [inI64] <;> omega)) ?_
      refine wpA_cond rfl (fun hd => ?_) (fun hd => ?_)
      · have h2 := hd
        have k2 := of_decide_eq_true h2
        rw [show tickR n x = _ from by rw [tickR, if_neg nE, if_neg nT, if_pos k2]]
        have hs : shaped (stand1 n 2).hard = true := (electR_shaped hE : shaped n.hard = true)
        have hfew := electR_few hE
        refine wpA_reg [2, 4] [] rfl (by simp only [go_sem, Nat.reduceBEq, Nat.reduceAdd, Nat.reduceEqDiff, Nat.reduceLeDiff, Nat.reduceLT, Nat.reduceMul]; with_reducible rfl) (by first | trivial | omega | (simp +contextual [inI64] <;> omega)) ?_
        refine wpA_regD [[2], [2], [27], [4, 26], [28], []] [4, 5, 6] [usePure (f47_walk (stand1 n 2) hs (by show n.peers.length ≤ 1000; omega) (fun p hp => by have := (electR_mem hE p hp).2; omega)) rfl cb47] mx rfl (by simp only [go_sem, stand1_id, stand1_hard, stand1_role, stand1_lead, stand1_timer, stand1_commit, stand1_got, stand1_peers, Nat.reduceBEq, Nat.reduceAdd, Nat.reduceEqDiff, Nat.reduceLeDiff, Nat.reduceLT, Nat.reduceMul]; with_reducible rfl) (by kernel_rfl) (by first | trivial | omega | (simp +contextual [inI64] <;> omega)) ?_
        refine wpA_ret (tR ?_)
        refine endD (.inr rfl) (by simp only [go_sem, Nat.reduceBEq, Nat.reduceAdd, Nat.reduceEqDiff, Nat.reduceLeDiff, Nat.reduceLT, Nat.reduceMul]; with_reducible rfl) ?_
        simp only [go_sem, stand1_id, stand1_hard, stand1_role, stand1_lead, stand1_timer, stand1_commit, stand1_got, stand1_peers, Nat.reduceBEq, Nat.reduceAdd, Nat.reduceEqDiff, Nat.reduceLeDiff, Nat.reduceLT, Nat.reduceMul]
      · have h2 := hd
        have k2 := of_decide_eq_false h2
        refine wpA_skip ?_
        refine tN ?_
        refine wpA_reg [4, 7, 8, 9] [useAt [] (f52_walk n x hE) (id rfl) (id rfl) cb52] rfl (by simp only [go_sem, Nat.reduceBEq, Nat.reduceAdd, Nat.reduceEqDiff, Nat.reduceLeDiff, Nat.reduceLT, Nat.reduceMul]; with_reducible rfl) (by first | trivial | omega | (simp +contextual [inI64] <;> omega)) ?_
        by_cases hw : (standR n x).2.2 = true
        · rw [show tickR n x = _ from by rw [tickR, if_neg nE, if_neg nT, if_neg k2, if_pos hw]]
          have hln := lead_lenR n x hE (hE3 hE hw)
          refine wpA_reg [4, 5, 6] [useAt [15] (f53_yes (standR n x).1 (standR n x).2.1 (hE3 hE hw) hln) (id rfl) (id rfl) cb53] rfl (by simp only [go_sem, hw, Nat.reduceBEq, Nat.reduceAdd, Nat.reduceEqDiff, Nat.reduceLeDiff, Nat.reduceLT, Nat.reduceMul]; with_reducible rfl) (by first | trivial | omega | (simp +contextual [inI64] <;> omega)) ?_
          refine wpA_ret ?_
          refine endD (.inr rfl) (by simp only [go_sem, Nat.reduceBEq, Nat.reduceAdd, Nat.reduceEqDiff, Nat.reduceLeDiff, Nat.reduceLT, Nat.reduceMul]; with_reducible rfl) ?_
          simp only [go_sem, List.map_append, Nat.reduceBEq, Nat.reduceAdd, Nat.reduceEqDiff, Nat.reduceLeDiff, Nat.reduceLT, Nat.reduceMul]
        · have hw : (standR n x).2.2 = false := by simpa using hw
          rw [show tickR n x = _ from by rw [tickR, if_neg nE, if_neg nT, if_neg k2, if_neg (by rw [hw]; simp)]]
          refine wpA_reg [4, 5, 6] [useAt [15] (f53_no (standR n x).1 (standR n x).2.1) (id rfl) (id rfl) cb53] rfl (by simp only [go_sem, hw, Nat.reduceBEq, Nat.reduceAdd, Nat.reduceEqDiff, Nat.reduceLeDiff, Nat.reduceLT, Nat.reduceMul]; with_reducible rfl) (by first | trivial | omega | (simp +contextual [inI64] <;> omega)) ?_
          refine wpA_ret ?_
          refine endD (.inr rfl) (by simp only [go_sem, Nat.reduceBEq, Nat.reduceAdd, Nat.reduceEqDiff, Nat.reduceLeDiff, Nat.reduceLT, Nat.reduceMul]; with_reducible rfl) ?_
          simp only [go_sem, Nat.reduceBEq, Nat.reduceAdd, Nat.reduceEqDiff, Nat.reduceLeDiff, Nat.reduceLT, Nat.reduceMul]

theorem cb17 : callB Tryz.prog 17 = true := by kernel_rfl
theorem f17_walk  : CallsA Tryz.prog 17 [] [] (.d (boo true)) [] := by
  refine callsW_of (fn := Tryz.f17) [.tmp 0] Tryz.func17 rfl rfl (by show 0 ≤ 29; omega) ?_
  refine wpA_reg [] [] rfl (by simp only [go_sem, Nat.reduceBEq, Nat.reduceAdd, Nat.reduceEqDiff, Nat.reduceLeDiff, Nat.reduceLT, Nat.reduceMul]; with_reducible rfl) (by first | trivial | omega | (simp +contextual [inI64] <;> omega)) ?_
  refine wpA_reg [1, 2] [usePure (f13_walk 1 hard1 1) rfl cb13] rfl (by simp only [go_sem, hard1_t, hard1_v, hard1_b, hard1_bt, hard1_r, hard1_s, hard1_vs, List.map_nil, List.map_cons, encI, Nat.reduceBEq, Nat.reduceAdd, Nat.reduceEqDiff, Nat.reduceLeDiff, Nat.reduceLT, Nat.reduceMul]; with_reducible rfl) (by first | trivial | omega | (simp +contextual [inI64] <;> omega)) ?_
  refine wpA_reg [2, 3, 5] [usePure (f15_walk (beginF 1 hard1 1).1 5) rfl cb15] rfl (by simp only [go_sem, Nat.reduceBEq, Nat.reduceAdd, Nat.reduceEqDiff, Nat.reduceLeDiff, Nat.reduceLT, Nat.reduceMul]; with_reducible rfl) (by first | trivial | omega | (simp +contextual [inI64] <;> omega)) ?_
  refine wpA_reg [0] [] rfl (by simp only [go_sem, Nat.reduceBEq, Nat.reduceAdd, Nat.reduceEqDiff, Nat.reduceLeDiff, Nat.reduceLT, Nat.reduceMul]; with_reducible rfl) (by first | trivial | omega | (simp +contextual [inI64] <;> omega)) ?_
  refine wpA_ret ?_
  refine endD (.inr rfl) (by simp only [go_sem, Nat.reduceBEq, Nat.reduceAdd, Nat.reduceEqDiff, Nat.reduceLeDiff, Nat.reduceLT, Nat.reduceMul]; with_reducible rfl) ?_
  simp only [go_sem, Nat.reduceBEq, Nat.reduceAdd, Nat.reduceEqDiff, Nat.reduceLeDiff, Nat.reduceLT, Nat.reduceMul]
  rw [b1, b2, b3]
  rfl

end Go.Abs
