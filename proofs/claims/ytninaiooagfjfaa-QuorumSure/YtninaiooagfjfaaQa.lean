/- Words for a peer, a list of ints. No conditions. -/
import Derived.Test.YtninaiooagfjfaaQt
set_option linter.unusedVariables false
set_option linter.unusedSimpArgs false
namespace Go.Abs
open Go Go.RowKit Go.Proofs

structure Peer where
  id : Int
  next : Int
  mtch : Int

def i64 (n : Int) : D := .lit (.int .i64 n)
def boo (b : Bool) : D := .lit (.bool b)
def encI (x : Int) : List D := [i64 x]
def ints (l : List Int) : D := .lst (l.map encI)
def encPeer (p : Peer) : List D := [i64 p.id, i64 p.next, i64 p.mtch]
def peers (l : List Peer) : D := .lst (l.map encPeer)

attribute [go_sem] i64 boo ints peers

def has (id x me last : Int) (ps : List Peer) : Bool :=
  if id = me then decide (x ≤ last) else ps.any (fun p => decide (p.id = id) && decide (p.mtch ≥ x)) || decide (x ≤ 0)

theorem peers_getD (ps : List Peer) {j : Nat} (h : j < ps.length) : (ps.map encPeer).getD j [] = encPeer ps[j] := by simp [List.getD, h]
theorem peers_len (ps : List Peer) : ∀ row ∈ ps.map encPeer, row.length = 3 := by simp [encPeer]

theorem has_walk (id x me last : Int) (ps : List Peer) : CallsA Try.prog 8 [.d (i64 id), .d (i64 x), .d (i64 me), .d (i64 last), .d (peers ps)] [] (.d (boo (has id x me last ps))) [] := by
  refine callsA_len (k := 4) rfl fun hlen => ?_
  rw [List.length_map] at hlen
  refine callsA_of (fn := Try.f8) rfl rfl (by show 5 ≤ 38; omega) ?_
  refine wpA_reg [0, 1, 2, 3, 4] [] rfl (by simp only [go_sem, Nat.reduceBEq, Nat.reduceAdd, Nat.reduceEqDiff, Nat.reduceLeDiff, Nat.reduceLT, Nat.reduceMul]; with_reducible rfl) (by simp) ?_
  refine wpA_seq (wpA_reg [0, 1, 2, 3, 4, 15] [] rfl (by simp only [go_sem, Nat.reduceBEq, Nat.reduceAdd, Nat.reduceEqDiff, Nat.reduceLeDiff, Nat.reduceLT, Nat.reduceMul]; with_reducible rfl) (by simp) (wpA_cond (t := decide (id = me)) rfl (fun h => ?_) (fun h => ?_)))
  · refine wpA_reg [10] [] rfl (by simp only [go_sem, Nat.reduceBEq, Nat.reduceAdd, Nat.reduceEqDiff, Nat.reduceLeDiff, Nat.reduceLT, Nat.reduceMul]; with_reducible rfl) (by simp) (wpA_ret ?_)
    have h := of_decide_eq_true h
    refine ⟨.inr rfl, _, _, weak_of (fr' := [(10, .d (boo (decide (x ≤ last))))]) (bs := []) [] trivial (by simp) trivial (by simp only [go_sem, Nat.reduceBEq]; try simp), rfl, ?_⟩
    simp [has, h, resOne]
  · have h := of_decide_eq_false h
    refine wpA_skip ?_
    dsimp only [thenA]
    refine wpA_seq (wpA_reg [0, 1, 19, 20, 21] [] rfl (by simp only [go_sem, Nat.reduceBEq, Nat.reduceAdd, Nat.reduceEqDiff, Nat.reduceLeDiff, Nat.reduceLT, Nat.reduceMul]; with_reducible rfl) (by simp) (wpA_block ?_))
    refine wpA_loop (fun j : Nat => ⟨[(0, .d (i64 id)), (1, .d (i64 x)), (19, .d (peers ps)), (20, .d (i64 ps.length)), (21, .d (i64 j))], [], 0⟩) (fun j => j ≤ ps.length ∧ (ps.take j).any (fun p => decide (p.id = id) && decide (p.mtch ≥ x)) = false)
      (fun j => ps.length - j) 0 (weak_of (bs := []) [] trivial (by simp) trivial (by simp only [go_sem, Nat.reduceBEq]; try simp)) (by simp) (fun j hj => ?_)
    obtain ⟨hj1, hj2⟩ := hj
    refine wpA_reg [0, 1, 19, 20, 21, 22] [] rfl (by simp only [go_sem, Nat.reduceBEq, Nat.reduceAdd, Nat.reduceEqDiff, Nat.reduceLeDiff, Nat.reduceLT, Nat.reduceMul]; with_reducible rfl) (by simp) (wpA_seq (wpA_cond (t := decide ((j : Int) < ps.length)) rfl (fun h2 => ?_) (fun h2 => ?_)))
    · have h2 : j < ps.length := by simpa using h2
      refine wpA_skip ?_
      dsimp only [thenA]
      have hg := peers_getD ps h2
      refine wpA_seq (wpA_block (wpA_reg [0, 1, 12, 19, 20, 21] [] rfl (by simp only [go_sem, hg, encPeer, Nat.reduceBEq, Nat.reduceAdd, Nat.reduceEqDiff, Nat.reduceLeDiff, Nat.reduceLT, Nat.reduceMul]; with_reducible rfl) (by simp [h2, encPeer]) ?_))
      refine wpA_reg [0, 1, 19, 20, 21, 34] [] rfl (by simp only [go_sem, Nat.reduceBEq, Nat.reduceAdd, Nat.reduceEqDiff, Nat.reduceLeDiff, Nat.reduceLT, Nat.reduceMul]; with_reducible rfl) (by simp) ?_
      refine wpA_cond rfl (fun h3 => ?_) (fun h3 => ?_)
      · refine wpA_reg [10] [] rfl (by simp only [go_sem, Nat.reduceBEq, Nat.reduceAdd, Nat.reduceEqDiff, Nat.reduceLeDiff, Nat.reduceLT, Nat.reduceMul]; with_reducible rfl) (by simp) (wpA_ret ?_)
        refine ⟨.inr rfl, _, _, weak_of (fr' := [(10, .d (boo true))]) (bs := []) [] trivial (by simp) trivial (by simp only [go_sem, Nat.reduceBEq]), rfl, ?_⟩
        have h4 : (decide (ps[j].id = id) && decide (ps[j].mtch ≥ x)) = true := by simpa using h3
        have : ps.any (fun p => decide (p.id = id) && decide (p.mtch ≥ x)) = true := List.any_eq_true.2 ⟨ps[j], List.getElem_mem h2, h4⟩
        simp only [has, h, this, if_false, Bool.true_or]; rfl
      · have h4 : (decide (ps[j].id = id) && decide (ps[j].mtch ≥ x)) = false := by simpa using h3
        refine wpA_skip ?_
        dsimp only [thenA, blockA]
        refine wpA_region [0, 1, 19, 20, 21] [] rfl (by simp only [go_sem, Nat.reduceBEq, Nat.reduceAdd, Nat.reduceEqDiff, Nat.reduceLeDiff, Nat.reduceLT, Nat.reduceMul]; with_reducible rfl) (by simp only [go_sem, inI64]; omega) ?_
        refine ⟨j + 1, ⟨h2, ?_⟩, by omega, weak_of (bs := []) [] trivial (by simp) trivial (by simp only [go_sem, Nat.reduceBEq, Int.natCast_add, Int.natCast_one])⟩
        rw [List.take_succ_eq_append_getElem h2, List.any_append, hj2]; simpa using h4
    · have h2 : j = ps.length := by simp at h2; omega
      refine wpA_exit ?_
      dsimp only [thenA, blockA]
      rw [if_pos rfl]
      refine wpA_reg [10] [] rfl (by simp only [go_sem, Nat.reduceBEq, Nat.reduceAdd, Nat.reduceEqDiff, Nat.reduceLeDiff, Nat.reduceLT, Nat.reduceMul]; with_reducible rfl) (by simp only [go_sem]) (wpA_ret ?_)
      refine ⟨.inr rfl, _, _, weak_of (fr' := [(10, .d (boo (decide (x ≤ 0))))]) (bs := []) [] trivial (by simp) trivial (by simp only [go_sem, Nat.reduceBEq]), rfl, ?_⟩
      subst h2
      rw [List.take_length] at hj2
      simp only [has, h, hj2, if_false, Bool.false_or]; rfl
end Go.Abs
