/- Walks: the quorum's own answer. No conditions. -/
import Derived.Test.YtninaiooagfjfaaQd
set_option linter.unusedVariables false
set_option linter.unusedSimpArgs false
namespace Go.Abs
open Go Go.RowKit Go.Proofs

def gotP (id : Int) (ps : List Peer) : Int := ps.foldl (fun g p => if p.id = id then max g p.mtch else g) 0
def valOf (me last : Int) (ps : List Peer) (id : Int) : Int := min (if id = me then last else gotP id ps) last
def sure (vs : List Int) (me last : Int) (ps : List Peer) : Int := if right vs ∧ 0 ≤ last then (sorted (vs.map (valOf me last ps))).getD ((vs.length - 1) / 2) 0 else 0

theorem gotP_zero (id : Int) : gotP id [] = 0 := rfl
theorem gotP_next (id : Int) {ps : List Peer} {j : Nat} (h : j < ps.length) : gotP id (ps.take (j + 1)) = if ps[j].id = id then max (gotP id (ps.take j)) ps[j].mtch else gotP id (ps.take j) := foldl_next _ 0 ps h
theorem vals_next (me last : Int) (ps : List Peer) {vs : List Int} {j : Nat} (h : j < vs.length) : ((vs.take (j + 1)).map (valOf me last ps)).map encI = ((vs.take j).map (valOf me last ps)).map encI ++ [[.lit (.int .i64 (valOf me last ps vs[j]))]] := by
  rw [List.take_succ_eq_append_getElem h, List.map_append, List.map_append]; rfl

theorem f6_walk (vs : List Int) (me last : Int) (ps : List Peer) : CallsA Try.prog 6 [.d (ints vs), .d (i64 me), .d (i64 last), .d (peers ps)] [] (.d (i64 (sure vs me last ps))) [] := by
  refine callsA_len (k := 0) rfl fun hlen => ?_
  rw [List.length_map] at hlen
  refine callsA_len (k := 3) rfl fun hplen => ?_
  rw [List.length_map] at hplen
  refine callsA_of (fn := Try.f6) rfl rfl (by show 4 ≤ 63; omega) ?_
  refine wpA_reg [0, 1, 2, 3] [] rfl (by simp only [go_sem, Nat.reduceBEq, Nat.reduceAdd, Nat.reduceEqDiff, Nat.reduceLeDiff, Nat.reduceLT, Nat.reduceMul]; with_reducible rfl) (by simp) ?_
  refine wpA_seq ?_
  refine wpA_reg [0, 1, 2, 3, 21] [usePure (f9_walk vs) rfl cb9] rfl (by simp only [go_sem, Nat.reduceBEq, Nat.reduceAdd, Nat.reduceEqDiff, Nat.reduceLeDiff, Nat.reduceLT, Nat.reduceMul]; with_reducible rfl) (by simp) ?_
  refine wpA_cond rfl (fun hc => ?_) (fun hc => ?_)
  · refine wpA_reg [8] [] rfl (by simp only [go_sem, Nat.reduceBEq, Nat.reduceAdd, Nat.reduceEqDiff, Nat.reduceLeDiff, Nat.reduceLT, Nat.reduceMul]; with_reducible rfl) (by simp) ?_
    refine wpA_ret (tR ?_)
    refine ⟨.inr rfl, _, _, weak_of (fr' := [(8, .d (i64 0))]) (bs := []) [] trivial (by simp) trivial (by simp only [go_sem, Nat.reduceBEq]), rfl, ?_⟩
    rw [sure, if_neg (by intro hh; simp [hh.1] at hc; omega)]; rfl
  have hr : right vs = true ∧ 0 ≤ last := by simpa using hc
  have h7 : vs.length ≤ 7 ∧ 1 ≤ vs.length := by have := hr.1; simp [right] at this; omega
  refine wpA_skip ?_
  refine tN ?_
  refine wpA_reg [0, 1, 2, 3, 9] [] rfl (by simp only [go_sem, Nat.reduceBEq, Nat.reduceAdd, Nat.reduceEqDiff, Nat.reduceLeDiff, Nat.reduceLT, Nat.reduceMul]; with_reducible rfl) (by simp) ?_
  refine wpA_seq ?_
  refine wpA_reg [1, 2, 3, 9, 22, 23, 24] [] rfl (by simp only [go_sem, Nat.reduceBEq, Nat.reduceAdd, Nat.reduceEqDiff, Nat.reduceLeDiff, Nat.reduceLT, Nat.reduceMul]; with_reducible rfl) (by simp) ?_
  refine wpA_block ?_
  refine wpA_loop (fun j : Nat => ⟨[(1, .d (i64 me)), (2, .d (i64 last)), (3, .d (peers ps)), (9, .own 0), (22, .d (ints vs)), (23, .d (i64 vs.length)), (24, .d (i64 j))], enum [.row 3 1 (((vs.take j).map (valOf me last ps)).map encI)] 0, 1⟩) (fun j => j ≤ vs.length) (fun j => vs.length - j) 0
    ((weak_own (k := 9) (e := 3) (sz := 1) rfl).trans (weak_of [12] trivial (by simp) (by simp only [go_sem, List.take_zero, Int.natCast_zero, Nat.reduceBEq, Nat.reduceAdd, Nat.reduceEqDiff, Nat.reduceLeDiff, Nat.reduceLT, Nat.reduceMul]) (by simp only [go_sem, List.take_zero, Int.natCast_zero, Nat.reduceBEq, Nat.reduceAdd, Nat.reduceEqDiff, Nat.reduceLeDiff, Nat.reduceLT, Nat.reduceMul]))) (Nat.zero_le _) (fun j hj => ?_)
  refine wpA_reg [1, 2, 3, 9, 22, 23, 24, 25] [] rfl (by simp only [go_sem, Nat.reduceBEq, Nat.reduceAdd, Nat.reduceEqDiff, Nat.reduceLeDiff, Nat.reduceLT, Nat.reduceMul]; with_reducible rfl) (by simp) ?_
  refine wpA_seq ?_
  refine wpA_cond rfl (fun hc => ?_) (fun hc => ?_)
  · have hc : j < vs.length := by simpa using hc
    have hg := ints_getD vs hc
    have hgd : vs.getD j 0 = vs[j] := by simp [List.getD, hc]
    have hl := ints_len vs
    have hvn := vals_next me last ps hc
    have hvl : ((vs.take j).map (valOf me last ps)).length ≤ 7 := by simp; omega
    generalize hid : vs[j] = id at hgd hvn
    refine wpA_skip ?_
    refine tN ?_
    refine wpA_seq ?_
    refine wpA_block ?_
    refine wpA_reg [1, 2, 3, 9, 11, 22, 23, 24] [] rfl (by simp only [go_sem, hg, hgd, encI, Nat.reduceBEq, Nat.reduceAdd, Nat.reduceEqDiff, Nat.reduceLeDiff, Nat.reduceLT, Nat.reduceMul]; with_reducible rfl) (by exact ⟨by omega, by omega, hl⟩) ?_
    refine wpA_reg [1, 2, 3, 9, 11, 12, 22, 23, 24] [] rfl (by simp only [go_sem, Nat.reduceBEq, Nat.reduceAdd, Nat.reduceEqDiff, Nat.reduceLeDiff, Nat.reduceLT, Nat.reduceMul]; with_reducible rfl) (by simp) ?_
    refine wpA_seq ?_
    refine wpA_reg [1, 2, 3, 9, 11, 12, 22, 23, 24, 28, 29, 30] [] rfl (by simp only [go_sem, Nat.reduceBEq, Nat.reduceAdd, Nat.reduceEqDiff, Nat.reduceLeDiff, Nat.reduceLT, Nat.reduceMul]; with_reducible rfl) (by simp) ?_
    refine wpA_block ?_
    refine wpA_loop (fun k : Nat => ⟨[(1, .d (i64 me)), (2, .d (i64 last)), (3, .d (peers ps)), (9, .own 0), (11, .d (i64 id)), (12, .d (i64 (gotP id (ps.take k)))), (22, .d (ints vs)), (23, .d (i64 vs.length)), (24, .d (i64 j)), (28, .d (peers ps)), (29, .d (i64 ps.length)), (30, .d (i64 k))], enum [.row 3 1 (((vs.take j).map (valOf me last ps)).map encI)] 0, 1⟩) (fun k => k ≤ ps.length) (fun k => ps.length - k) 0
      (weak_of [0] trivial (by simp) (by simp only [go_sem, List.take_zero, gotP_zero, Int.natCast_zero, Nat.reduceBEq, Nat.reduceAdd, Nat.reduceEqDiff, Nat.reduceLeDiff, Nat.reduceLT, Nat.reduceMul]) (by simp only [go_sem, List.take_zero, gotP_zero, Int.natCast_zero, Nat.reduceBEq, Nat.reduceAdd, Nat.reduceEqDiff, Nat.reduceLeDiff, Nat.reduceLT, Nat.reduceMul])) (Nat.zero_le _) (fun k hk => ?_)
    refine wpA_reg [1, 2, 3, 9, 11, 12, 22, 23, 24, 28, 29, 30, 31] [] rfl (by simp only [go_sem, Nat.reduceBEq, Nat.reduceAdd, Nat.reduceEqDiff, Nat.reduceLeDiff, Nat.reduceLT, Nat.reduceMul]; with_reducible rfl) (by simp) ?_
    refine wpA_seq ?_
    refine wpA_cond rfl (fun hd => ?_) (fun hd => ?_)
    · have hd : k < ps.length := by simpa using hd
      have hgp := peers_getD ps hd
      have hn := gotP_next id hd
      refine wpA_skip ?_
      refine tN ?_
      refine wpA_seq ?_
      refine wpA_block ?_
      refine wpA_reg [1, 2, 3, 9, 11, 12, 14, 22, 23, 24, 28, 29, 30] [] rfl (by simp only [go_sem, hgp, encPeer, Nat.reduceBEq, Nat.reduceAdd, Nat.reduceEqDiff, Nat.reduceLeDiff, Nat.reduceLT, Nat.reduceMul]; with_reducible rfl) (by simp [hd, encPeer]) ?_
      refine wpA_reg [1, 2, 3, 9, 11, 12, 14, 22, 23, 24, 28, 29, 30, 37] [] rfl (by simp only [go_sem, Nat.reduceBEq, Nat.reduceAdd, Nat.reduceEqDiff, Nat.reduceLeDiff, Nat.reduceLT, Nat.reduceMul]; with_reducible rfl) (by simp) ?_
      refine wpA_cond rfl (fun he => ?_) (fun he => ?_)
      · rw [if_pos (by simpa using he)] at hn
        refine wpA_region [1, 2, 3, 9, 11, 12, 22, 23, 24, 28, 29, 30] [] rfl (by simp only [go_sem, Nat.reduceBEq, Nat.reduceAdd, Nat.reduceEqDiff, Nat.reduceLeDiff, Nat.reduceLT, Nat.reduceMul]; with_reducible rfl) (by simp) ?_
        refine bN (tN ?_)
        refine wpA_region [1, 2, 3, 9, 11, 12, 22, 23, 24, 28, 29, 30] [] rfl (by simp only [go_sem, Nat.reduceBEq, Nat.reduceAdd, Nat.reduceEqDiff, Nat.reduceLeDiff, Nat.reduceLT, Nat.reduceMul]; with_reducible rfl) (by simp only [inI64]; omega) ?_
        refine tN ?_
        exact ⟨k + 1, hd, by omega, weak_of [0] trivial (by simp) (by simp only [go_sem, hn, Int.natCast_add, Int.natCast_one, Nat.reduceBEq, Nat.reduceAdd, Nat.reduceEqDiff, Nat.reduceLeDiff, Nat.reduceLT, Nat.reduceMul]) (by simp only [go_sem, hn, Int.natCast_add, Int.natCast_one, Nat.reduceBEq, Nat.reduceAdd, Nat.reduceEqDiff, Nat.reduceLeDiff, Nat.reduceLT, Nat.reduceMul])⟩
      · rw [if_neg (by simpa using he)] at hn
        refine wpA_skip ?_
        refine bN (tN ?_)
        refine wpA_region [1, 2, 3, 9, 11, 12, 22, 23, 24, 28, 29, 30] [] rfl (by simp only [go_sem, Nat.reduceBEq, Nat.reduceAdd, Nat.reduceEqDiff, Nat.reduceLeDiff, Nat.reduceLT, Nat.reduceMul]; with_reducible rfl) (by simp only [inI64]; omega) ?_
        refine tN ?_
        exact ⟨k + 1, hd, by omega, weak_of [0] trivial (by simp) (by simp only [go_sem, hn, Int.natCast_add, Int.natCast_one, Nat.reduceBEq, Nat.reduceAdd, Nat.reduceEqDiff, Nat.reduceLeDiff, Nat.reduceLT, Nat.reduceMul]) (by simp only [go_sem, hn, Int.natCast_add, Int.natCast_one, Nat.reduceBEq, Nat.reduceAdd, Nat.reduceEqDiff, Nat.reduceLeDiff, Nat.reduceLT, Nat.reduceMul])⟩
    · have hd : k = ps.length := by simp at hd; omega
      subst hd
      rw [List.take_length]
      refine wpA_exit (tE (tE (bE ?_)))
      refine tN ?_
      refine wpA_seq ?_
      refine wpA_reg [1, 2, 3, 9, 11, 12, 22, 23, 24, 45] [] rfl (by simp only [go_sem, Nat.reduceBEq, Nat.reduceAdd, Nat.reduceEqDiff, Nat.reduceLeDiff, Nat.reduceLT, Nat.reduceMul]; with_reducible rfl) (by simp) ?_
      refine wpA_cond rfl (fun he => ?_) (fun he => ?_)
      · have hv : valOf me last ps id = min last last := by rw [valOf, if_pos (by simpa using he)]
        refine wpA_region [1, 2, 3, 9, 12, 22, 23, 24] [] rfl (by simp only [go_sem, Nat.reduceBEq, Nat.reduceAdd, Nat.reduceEqDiff, Nat.reduceLeDiff, Nat.reduceLT, Nat.reduceMul]; with_reducible rfl) (by simp) ?_
        refine tN ?_
        refine wpA_region [1, 2, 3, 9, 22, 23, 24] [] rfl (by simp only [go_sem, Nat.reduceBEq, Nat.reduceAdd, Nat.reduceEqDiff, Nat.reduceLeDiff, Nat.reduceLT, Nat.reduceMul]; with_reducible rfl) (by simp; omega) ?_
        refine bN (tN ?_)
        refine wpA_region [1, 2, 3, 9, 22, 23, 24] [] rfl (by simp only [go_sem, Nat.reduceBEq, Nat.reduceAdd, Nat.reduceEqDiff, Nat.reduceLeDiff, Nat.reduceLT, Nat.reduceMul]; with_reducible rfl) (by simp only [inI64]; omega) ?_
        refine tN ?_
        exact ⟨j + 1, hc, by omega, weak_of [12] trivial (by simp) (by simp only [go_sem, hvn, hv, Int.natCast_add, Int.natCast_one, Nat.reduceBEq, Nat.reduceAdd, Nat.reduceEqDiff, Nat.reduceLeDiff, Nat.reduceLT, Nat.reduceMul]) (by simp only [go_sem, hvn, hv, Int.natCast_add, Int.natCast_one, Nat.reduceBEq, Nat.reduceAdd, Nat.reduceEqDiff, Nat.reduceLeDiff, Nat.reduceLT, Nat.reduceMul])⟩
      · have hv : valOf me last ps id = min (gotP id ps) last := by rw [valOf, if_neg (by simpa using he)]
        refine wpA_skip ?_
        refine tN ?_
        refine wpA_region [1, 2, 3, 9, 22, 23, 24] [] rfl (by simp only [go_sem, Nat.reduceBEq, Nat.reduceAdd, Nat.reduceEqDiff, Nat.reduceLeDiff, Nat.reduceLT, Nat.reduceMul]; with_reducible rfl) (by simp; omega) ?_
        refine bN (tN ?_)
        refine wpA_region [1, 2, 3, 9, 22, 23, 24] [] rfl (by simp only [go_sem, Nat.reduceBEq, Nat.reduceAdd, Nat.reduceEqDiff, Nat.reduceLeDiff, Nat.reduceLT, Nat.reduceMul]; with_reducible rfl) (by simp only [inI64]; omega) ?_
        refine tN ?_
        exact ⟨j + 1, hc, by omega, weak_of [10] trivial (by simp) (by simp only [go_sem, hvn, hv, Int.natCast_add, Int.natCast_one, Nat.reduceBEq, Nat.reduceAdd, Nat.reduceEqDiff, Nat.reduceLeDiff, Nat.reduceLT, Nat.reduceMul]) (by simp only [go_sem, hvn, hv, Int.natCast_add, Int.natCast_one, Nat.reduceBEq, Nat.reduceAdd, Nat.reduceEqDiff, Nat.reduceLeDiff, Nat.reduceLT, Nat.reduceMul])⟩
  · have hc : j = vs.length := by simp at hc; omega
    subst hc
    rw [List.take_length]
    have hsl : (sorted (vs.map (valOf me last ps))).length = vs.length := by simp [sorted]
    have hq : ((vs.length : Int) - 1) / 2 = ((vs.length - 1) / 2 : Nat) := by omega
    have hgs := ints_getD (sorted (vs.map (valOf me last ps))) (j := (vs.length - 1) / 2) (by omega)
    refine wpA_exit (tE (tE (bE ?_)))
    refine tN ?_
    refine wpA_reg [9] [useAt [0] (f10_walk (vs.map (valOf me last ps)) (by simp; omega)) (by simp) (by simp [tokB, tokBlks, tokBlk, tokLB]) cb10] rfl (by simp only [go_sem, Nat.reduceBEq, Nat.reduceAdd, Nat.reduceEqDiff, Nat.reduceLeDiff, Nat.reduceLT, Nat.reduceMul]; with_reducible rfl) (by simp) ?_
    have hs : sure vs me last ps = (sorted (vs.map (valOf me last ps))).getD ((vs.length - 1) / 2) 0 := by rw [sure, if_pos hr]
    refine wpA_reg [8] [] rfl (by simp only [go_sem, hsl, hq, hgs, encI, Nat.reduceBEq, Nat.reduceAdd, Nat.reduceEqDiff, Nat.reduceLeDiff, Nat.reduceLT, Nat.reduceMul]; with_reducible rfl) (by simp only [inI64]; omega) ?_
    refine wpA_ret ?_
    refine ⟨.inr rfl, _, _, weak_of (fr' := [(8, .d (i64 (sure vs me last ps)))]) (bs := []) [] trivial (by simp) trivial (by simp only [go_sem, hs, Nat.reduceBEq]), rfl, rfl⟩
end Go.Abs
