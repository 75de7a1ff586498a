/- The walk of the law itself. No conditions. -/
import Derived.Test.YtninaiooagfjfaaQe
set_option linter.unusedVariables false
set_option linter.unusedSimpArgs false
namespace Go.Abs
open Go Go.RowKit Go.Proofs

def want (vs : List Int) (me last : Int) (ps : List Peer) : Int := if 0 ≤ last then refSure vs me last ps else 0

theorem f3_walk (vs : List Int) (me last : Int) (ps : List Peer) : CallsA Try.prog 3 [.d (ints vs), .d (i64 me), .d (i64 last), .d (peers ps)] [] (.d (boo (decide (sure vs me last (ps.take 60) = want vs me last (ps.take 60))))) [] := by
  refine callsA_len (k := 3) rfl fun hplen => ?_
  rw [List.length_map] at hplen
  refine callsA_of (fn := Try.f3) rfl rfl (by show 4 ≤ 32; omega) ?_
  refine wpA_reg [0, 1, 2, 3] [] rfl (by simp only [go_sem, Nat.reduceBEq, Nat.reduceAdd, Nat.reduceEqDiff, Nat.reduceLeDiff, Nat.reduceLT, Nat.reduceMul]; with_reducible rfl) (by simp) ?_
  refine wpA_join (fun _ : Unit => ⟨[(0, .d (ints vs)), (1, .d (i64 me)), (2, .d (i64 last)), (3, .d (peers (ps.take 60)))], [], 0⟩) (fun _ => True) ?_ (fun _ _ => ?_)
  · refine wpA_reg [0, 1, 2, 3, 12] [] rfl (by simp only [go_sem, Nat.reduceBEq, Nat.reduceAdd, Nat.reduceEqDiff, Nat.reduceLeDiff, Nat.reduceLT, Nat.reduceMul]; with_reducible rfl) (by simp) ?_
    refine wpA_cond rfl (fun hc => ?_) (fun hc => ?_)
    · have hc : 60 < ps.length := by simp at hc; omega
      refine wpA_region [0, 1, 2, 3] [] rfl (by simp only [go_sem, Nat.reduceBEq, Nat.reduceAdd, Nat.reduceEqDiff, Nat.reduceLeDiff, Nat.reduceLT, Nat.reduceMul]; with_reducible rfl) (by exact ⟨by omega, by omega, by omega, peers_len ps⟩) ?_
      refine tN ?_
      exact ⟨(), trivial, weak_of (bs := []) [] trivial (by simp) trivial (by simp only [go_sem, List.map_take, show Int.toNat 0 = 0 from rfl, show Int.toNat 60 = 60 from rfl, List.drop_zero, Nat.reduceBEq])⟩
    · have hc : ps.take 60 = ps := List.take_of_length_le (by simp at hc; omega)
      refine wpA_skip (tN ?_)
      exact ⟨(), trivial, weak_of (bs := []) [] trivial (by simp) trivial (by simp only [go_sem, hc, Nat.reduceBEq])⟩
  have h60 : (ps.take 60).length ≤ 60 := by simp; omega
  generalize ps.take 60 = ps at h60
  refine wpA_reg [0, 1, 2, 3, 9] [] rfl (by simp only [go_sem, Nat.reduceBEq, Nat.reduceAdd, Nat.reduceEqDiff, Nat.reduceLeDiff, Nat.reduceLT, Nat.reduceMul]; with_reducible rfl) (by simp) ?_
  refine wpA_join (fun _ : Unit => ⟨[(0, .d (ints vs)), (1, .d (i64 me)), (2, .d (i64 last)), (3, .d (peers ps)), (9, .d (i64 (want vs me last ps)))], [], 0⟩) (fun _ => True) ?_ (fun _ _ => ?_)
  · refine wpA_reg [0, 1, 2, 3, 9, 16] [] rfl (by simp only [go_sem, Nat.reduceBEq, Nat.reduceAdd, Nat.reduceEqDiff, Nat.reduceLeDiff, Nat.reduceLT, Nat.reduceMul]; with_reducible rfl) (by simp) ?_
    refine wpA_cond rfl (fun hc => ?_) (fun hc => ?_)
    · have hw : want vs me last ps = refSure vs me last ps := by rw [want, if_pos (by simpa using hc)]
      refine wpA_region [0, 1, 2, 3, 9] [usePure (f4_walk vs me last ps h60) rfl cb4] rfl (by simp only [go_sem, Nat.reduceBEq, Nat.reduceAdd, Nat.reduceEqDiff, Nat.reduceLeDiff, Nat.reduceLT, Nat.reduceMul]; with_reducible rfl) (by simp) ?_
      refine tN ?_
      exact ⟨(), trivial, weak_of (bs := []) [] trivial (by simp) trivial (by simp only [go_sem, hw, Nat.reduceBEq])⟩
    · have hw : want vs me last ps = 0 := by rw [want, if_neg (by simpa using hc)]
      refine wpA_skip (tN ?_)
      exact ⟨(), trivial, weak_of (bs := []) [] trivial (by simp) trivial (by simp only [go_sem, hw, Nat.reduceBEq])⟩
  refine wpA_reg [8] [usePure f5_walk rfl cb5, usePure (f6_walk vs me last ps) rfl cb6] rfl (by simp only [go_sem, Nat.reduceBEq, Nat.reduceAdd, Nat.reduceEqDiff, Nat.reduceLeDiff, Nat.reduceLT, Nat.reduceMul]; with_reducible rfl) (by simp) ?_
  refine wpA_ret ?_
  refine ⟨.inr rfl, _, _, weak_of (fr' := [(8, .d (boo (decide (sure vs me last ps = want vs me last ps))))]) (bs := []) [] trivial (by simp) trivial (by simp only [go_sem, Nat.reduceBEq]), rfl, rfl⟩
end Go.Abs
