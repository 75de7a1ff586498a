/- Walks: a node comes to lead. No conditions. -/
import Derived.Test.YtninaiooagfjfaaGreatDoorK44
set_option linter.unusedVariables false
set_option linter.unusedSimpArgs false
set_option maxRecDepth 20000
namespace Go.Abs
open Go Go.RowKit Go.Proofs

theorem electR_voters {n : Node} (h : electR n = true) : right n.hard.voters = true := by
  have := (electR_parts h).1
  cases hv : right n.hard.voters with
  | true => rfl
  | false => simp [head19, hv] at this
theorem votersOf_right {n : Node} (h : electR n = true) : right (votersOf n.hard).1 = true := by
  have : ∀ j, right (ofU n.hard j).1 = true := by
    intro j
    induction j with
    | zero => exact electR_voters h
    | succ j ih =>
      rw [ofU]
      split
      · rename_i hc
        obtain ⟨l, hl⟩ := Option.isSome_iff_exists.1 hc.2
        rw [hl]; exact parse_right hl
      · exact ih
  exact this _
def recL0 (n : Node) : Rec := ⟨n.hard.term, 0, ⟨⟨[]⟩⟩⟩
def lead1 (n : Node) : Node := { n with role := 2, lead := n.id, timer := 2, got := [] }
def lead2 (n : Node) : Node := withP (lead1 n) (peersF (votersOf n.hard).1 n.id ((lastF n.hard.log).1 + 1) [])
def lead3 (n : Node) : Node := addR (lead2 n) (recL0 n)
def leadD (m : Node) : Node × List Msg := (sureN m, (sureN m).peers.map (sendF (sureN m)))
def bad35 (n : Node) : Bool := !(electR n) || decide (n.role ≠ 1)
def leadF (n : Node) : Node × List Msg := if bad35 n = true then (n, []) else if walR (lead3 n).hard = true then leadD (lead3 n) else leadD (lead2 n)
def leadV (r : Node × List Msg) : V := .tup [.agg (nodeV r.1), .d (msgs r.2)]
attribute [go_sem] leadV
theorem lead1_id (n : Node) : (lead1 n).id = n.id := rfl
theorem lead1_hard (n : Node) : (lead1 n).hard = n.hard := rfl
theorem lead1_role (n : Node) : (lead1 n).role = 2 := rfl
theorem lead1_lead (n : Node) : (lead1 n).lead = n.id := rfl
theorem lead1_timer (n : Node) : (lead1 n).timer = 2 := rfl
theorem lead1_commit (n : Node) : (lead1 n).commit = n.commit := rfl
theorem lead1_got (n : Node) : (lead1 n).got = [] := rfl
theorem lead1_peers (n : Node) : (lead1 n).peers = n.peers := rfl
theorem lead2_id (n : Node) : (lead2 n).id = n.id := rfl
theorem lead2_hard (n : Node) : (lead2 n).hard = n.hard := rfl
theorem lead2_role (n : Node) : (lead2 n).role = 2 := rfl
theorem lead2_lead (n : Node) : (lead2 n).lead = n.id := rfl
theorem lead2_timer (n : Node) : (lead2 n).timer = 2 := rfl
theorem lead2_commit (n : Node) : (lead2 n).commit = n.commit := rfl
theorem lead2_got (n : Node) : (lead2 n).got = [] := rfl
theorem lead2_peers (n : Node) : (lead2 n).peers = peersF (votersOf n.hard).1 n.id ((lastF n.hard.log).1 + 1) [] := rfl
theorem f25_C (n : Node) (hs : n.hard.log.recs.length ≤ 200) : CallsA Tryz.prog 25 [.agg (nodeV (lead2 n)), .agg (recL (recL0 n))] [] (.tup [.agg (nodeV (lead3 n)), .d (boo (walR (lead3 n).hard))]) [] := f25_walk (lead2 n) _ hs
theorem able_lead2 {n : Node} (h : electR n = true) : Able (lead2 n) := by
  have hv := votersOf_few (electR_shaped h)
  have hl := last_small (electR_shaped h)
  refine ⟨(electR_shaped h : shaped n.hard = true), ?_, fun p hp => ?_⟩
  · have := peersF_len (votersOf n.hard).1 n.id ((lastF n.hard.log).1 + 1) []
    show (peersF _ _ _ _).length ≤ 20
    simp at this; omega
  · rcases peersF_mem hp with h1 | ⟨x, _, _, rfl⟩
    · cases h1
    · show 1 ≤ (lastF n.hard.log).1 + 1 ∧ (lastF n.hard.log).1 + 1 ≤ 2000000000
      omega
theorem able_lead3 {n : Node} (h : electR n = true) (hw : walR (lead3 n).hard = true) : Able (lead3 n) := ⟨walR_shaped hw, (able_lead2 h).few, (able_lead2 h).nx⟩
theorem cb27' : callB Tryz.prog 27 = true := cb27
theorem cb35 : callB Tryz.prog 35 = true := by kernel_rfl
theorem f35_walk (n : Node) : CallsA Tryz.prog 35 [.agg (nodeV n)] [] (leadV (leadF n)) [] := by
  refine callsW_of (fn := Tryz.f35) [.cell 2 30, .tmp 3] Tryz.func35 rfl rfl (by show 1 ≤ 53; omega) ?_
  refine wpA_reg [1, 2] [] rfl (by simp only [go_sem, Nat.reduceBEq, Nat.reduceAdd, Nat.reduceEqDiff, Nat.reduceLeDiff, Nat.reduceLT, Nat.reduceMul]; with_reducible rfl) (by first | trivial | omega | (simp +contextual [inI64] <;> omega)) ?_
  refine wpA_seq ?_
  refine wpA_reg [1, 2, 15] [usePure (f19_walk n) rfl cb19] rfl (by simp only [go_sem, Nat.reduceBEq, Nat.reduceAdd, Nat.reduceEqDiff, Nat.reduceLeDiff, Nat.reduceLT, Nat.reduceMul]; with_reducible rfl) (by first | trivial | omega | (simp +contextual [inI64] <;> omega)) ?_
  refine wpA_cond rfl (fun hd => ?_) (fun hd => ?_)
  · have h0 := hd
    refine wpA_reg [2, 3] [] rfl (by simp only [go_sem, Nat.reduceBEq, Nat.reduceAdd, Nat.reduceEqDiff, Nat.reduceLeDiff, Nat.reduceLT, Nat.reduceMul]; with_reducible rfl) (by first | trivial | omega | (simp +contextual [inI64] <;> omega)) ?_
    refine wpA_ret (tR ?_)
    refine endL (l := [.agg (nodeV n), .d (msgs [])]) [] (.inr rfl) (by simp only [go_sem, Nat.reduceBEq, Nat.reduceAdd, Nat.reduceEqDiff, Nat.reduceLeDiff, Nat.reduceLT, Nat.reduceMul]; with_reducible rfl) trivial (by simp) trivial (by simp only [go_sem, Nat.reduceBEq, Nat.reduceAdd, Nat.reduceEqDiff, Nat.reduceLeDiff, Nat.reduceLT, Nat.reduceMul]) ?_
    rw [leadF, if_pos (show bad35 n = true from h0)]
    rfl
  · have h0 := hd
    have nB : ¬ bad35 n = true := by rw [show bad35 n = false from h0]; simp
    have hE : electR n = true := by
      cases he : electR n with
      | true => rfl
      | false => simp [he] at h0
    have hs := electR_shaped hE
    have hV := votersOf_few hs
    have hR : (lead2 n).hard.log.recs.length ≤ 200 := (shaped_parts hs).2.2.2.2.1
    have hI : ∀ x ∈ (votersOf n.hard).1, -9223372036854775808 ≤ x ∧ x ≤ 9223372036854775807 := fun x hx => by have := right_range (votersOf_right hE) x hx; omega
    have hl := last_small hs
    refine wpA_skip ?_
    refine tN ?_
    refine wpA_reg [1, 2, 4] [usePure (f21_walk n.hard hs) rfl cb21] rfl (by simp only [go_sem, Nat.reduceBEq, Nat.reduceAdd, Nat.reduceEqDiff, Nat.reduceLeDiff, Nat.reduceLT, Nat.reduceMul]; with_reducible rfl) (by first | trivial | omega | (simp +contextual [inI64] <;> omega)) ?_
    refine wpA_reg [1, 2, 4] [] rfl (by simp only [go_sem, Nat.reduceBEq, Nat.reduceAdd, Nat.reduceEqDiff, Nat.reduceLeDiff, Nat.reduceLT, Nat.reduceMul]; with_reducible rfl) (by first | trivial | omega | (simp +contextual [inI64] <;> omega)) ?_
    refine wpA_regD [[4], [1], [30], [1], [32], [33], [29, 31, 34], [1], [35, 36]] [1, 2] [usePure (f27_walk (lead1 n)) rfl cb27, usePure (f26_walk (votersOf n.hard).1 n.id ((lastF n.hard.log).1 + 1) [] (by omega) (by simp) hI (by simp)) rfl cb26] mx rfl (by simp only [go_sem, lead1_id, lead1_hard, lead1_role, lead1_lead, lead1_timer, lead1_commit, lead1_got, lead1_peers, List.map_nil, Nat.reduceBEq, Nat.reduceAdd, Nat.reduceEqDiff, Nat.reduceLeDiff, Nat.reduceLT, Nat.reduceMul]; with_reducible rfl) (by kernel_rfl) (by first | trivial | omega | (simp +contextual [inI64] <;> omega)) ?_
    refine wpA_seq ?_
    refine wpA_reg [1, 2, 6, 7] [usePure (f25_C n hR) rfl cb25] rfl (by simp only [go_sem, lead2_id, lead2_hard, lead2_role, lead2_lead, lead2_timer, lead2_commit, lead2_got, lead2_peers, recL0, recL, List.map_nil, Nat.reduceBEq, Nat.reduceAdd, Nat.reduceEqDiff, Nat.reduceLeDiff, Nat.reduceLT, Nat.reduceMul]; with_reducible rfl) (by first | trivial | omega | (simp +contextual [inI64] <;> omega)) ?_
    refine wpA_reg [1, 2, 6, 46] [] rfl (by simp only [go_sem, Nat.reduceBEq, Nat.reduceAdd, Nat.reduceEqDiff, Nat.reduceLeDiff, Nat.reduceLT, Nat.reduceMul]; with_reducible rfl) (by first | trivial | omega | (simp +contextual [inI64] <;> omega)) ?_
    refine wpA_cond rfl (fun hd => ?_) (fun hd => ?_)
    · have h1 := hd
      have hA := able_lead3 hE h1
      refine wpA_region [1, 2] [] rfl (by simp only [go_sem, Nat.reduceBEq, Nat.reduceAdd, Nat.reduceEqDiff, Nat.reduceLeDiff, Nat.reduceLT, Nat.reduceMul]; with_reducible rfl) (by first | trivial | omega | (simp +contextual [inI64] <;> omega)) ?_
      refine tN ?_
      refine wpA_reg [1, 2] [usePure (f28_walk (lead3 n) hA.sh) rfl cb28] rfl (by simp only [go_sem, Nat.reduceBEq, Nat.reduceAdd, Nat.reduceEqDiff, Nat.reduceLeDiff, Nat.reduceLT, Nat.reduceMul]; with_reducible rfl) (by first | trivial | omega | (simp +contextual [inI64] <;> omega)) ?_
      refine wpA_regD [[1], [1], [51], [2, 50], [52]] [2, 3] [usePure (f29_walk (sureN (lead3 n)) hA.sure.sh (by have := hA.sure.few; omega) (fun p hp => by have := hA.sure.nx p hp; omega)) rfl cb29] mx rfl (by simp only [go_sem, Nat.reduceBEq, Nat.reduceAdd, Nat.reduceEqDiff, Nat.reduceLeDiff, Nat.reduceLT, Nat.reduceMul]; with_reducible rfl) (by kernel_rfl) (by first | trivial | omega | (simp +contextual [inI64] <;> omega)) ?_
      refine wpA_ret ?_
      refine endD (.inr rfl) (by simp only [go_sem, Nat.reduceBEq, Nat.reduceAdd, Nat.reduceEqDiff, Nat.reduceLeDiff, Nat.reduceLT, Nat.reduceMul]; with_reducible rfl) ?_
      rw [leadF, if_neg nB, if_pos h1, leadD]
      simp only [go_sem, Nat.reduceBEq, Nat.reduceAdd, Nat.reduceEqDiff, Nat.reduceLeDiff, Nat.reduceLT, Nat.reduceMul]
    · have h1 := hd
      have hA := able_lead2 hE
      refine wpA_skip ?_
      refine tN ?_
      refine wpA_reg [1, 2] [usePure (f28_walk (lead2 n) hA.sh) rfl cb28] rfl (by simp only [go_sem, lead2_id, lead2_hard, lead2_role, lead2_lead, lead2_timer, lead2_commit, lead2_got, lead2_peers, List.map_nil, Nat.reduceBEq, Nat.reduceAdd, Nat.reduceEqDiff, Nat.reduceLeDiff, Nat.reduceLT, Nat.reduceMul]; with_reducible rfl) (by first | trivial | omega | (simp +contextual [inI64] <;> omega)) ?_
      refine wpA_regD [[1], [1], [51], [2, 50], [52]] [2, 3] [usePure (f29_walk (sureN (lead2 n)) hA.sure.sh (by have := hA.sure.few; omega) (fun p hp => by have := hA.sure.nx p hp; omega)) rfl cb29] mx rfl (by simp only [go_sem, Nat.reduceBEq, Nat.reduceAdd, Nat.reduceEqDiff, Nat.reduceLeDiff, Nat.reduceLT, Nat.reduceMul]; with_reducible rfl) (by kernel_rfl) (by first | trivial | omega | (simp +contextual [inI64] <;> omega)) ?_
      refine wpA_ret ?_
      refine endD (.inr rfl) (by simp only [go_sem, Nat.reduceBEq, Nat.reduceAdd, Nat.reduceEqDiff, Nat.reduceLeDiff, Nat.reduceLT, Nat.reduceMul]; with_reducible rfl) ?_
      rw [leadF, if_neg nB, if_neg (by rw [h1]; simp), leadD]
      simp only [go_sem, Nat.reduceBEq, Nat.reduceAdd, Nat.reduceEqDiff, Nat.reduceLeDiff, Nat.reduceLT, Nat.reduceMul]

end Go.Abs
