/- Walks: how a server begins, sees a term, wins. No conditions. -/
import Derived.Test.YtninaiooagfjfaaGreatDoorK47
set_option linter.unusedVariables false
set_option linter.unusedSimpArgs false
set_option maxRecDepth 20000
namespace Go.Abs
open Go Go.RowKit Go.Proofs

def drawR (x : Int) : Int := if x < 0 then 0 else if 1048576 < x then 1048576 else x
def drawF (x : Int) : Int := min (max x 0) 1048576
theorem draw_law (x : Int) : drawF x = drawR x := by
  unfold drawF drawR
  split
  · omega
  · split <;> omega
def beginN (id : Int) (h : Hard) (d : Int) : Node := ⟨id, h, 0, 0, d, h.log.base, [], []⟩
def beginF (id : Int) (h : Hard) (x : Int) : Node × Int := if electR (beginN id h (drawF x)) = true then (beginN id h (drawF x), 0) else (node0, 1)
def beginR (id : Int) (h : Hard) (x : Int) : Node × Int := if refR (beginN id h (drawR x)) = true then (beginN id h (drawR x), 0) else (node0, 1)
def begV (r : Node × Int) : V := .tup [.agg (nodeV r.1), .d (i64 r.2)]
def laterN (n : Node) (t : Int) : Node := ⟨n.id, ⟨t, 0, n.hard.log, n.hard.snap, n.hard.voters⟩, 0, 0, n.timer, n.commit, [], []⟩
def laterF (n : Node) (t : Int) : Node := if (electR n && decide (n.hard.term < t) && decide (t ≤ 1073741824)) = true then laterN n t else n
def laterR (n : Node) (t : Int) : Node := if (decide (t ≤ n.hard.term) || decide (1073741824 < t)) = true then n else laterN n t
def winsF (a b : List Int) : Bool := right a && decide ((a.length : Int) < 2 * sameL a b)
def cntW (a b : List Int) (j : Nat) : Int := ((a.take j).countP (inL b) : Nat)
theorem cntW_zero (a b : List Int) : cntW a b 0 = 0 := by simp [cntW]
theorem cntW_le (a b : List Int) (j : Nat) : 0 ≤ cntW a b j ∧ cntW a b j ≤ a.length := by
  unfold cntW
  have h1 := List.countP_le_length (p := inL b) (l := a.take j)
  have h2 : (a.take j).length ≤ a.length := by simp; omega
  omega
theorem cntW_next {a : List Int} (b : List Int) {j : Nat} (h : j < a.length) : cntW a b (j + 1) = cntW a b j + if inL b (iAt a j) = true then 1 else 0 := by
  unfold cntW
  rw [List.take_succ_eq_append_getElem h, List.countP_append, iAt_get h]
  simp only [List.countP_cons, List.countP_nil]
  cases inL b a[j] <;> simp
theorem cntW_yes {a b : List Int} {j : Nat} (h : j < a.length) (hd : inL b (iAt a j) = true) : cntW a b (j + 1) = cntW a b j + 1 := by rw [cntW_next b h, if_pos hd]
theorem cntW_no {a b : List Int} {j : Nat} (h : j < a.length) (hd : inL b (iAt a j) = false) : cntW a b (j + 1) = cntW a b j := by rw [cntW_next b h, if_neg (by rw [hd]; simp), Int.add_zero]
def wins16 (a b : List Int) : Bool := right a && decide ((a.length : Int) - cntW a b a.length < cntW a b a.length)
theorem wI_in {n : Int} (h0 : -9223372036854775808 ≤ n) (h1 : n ≤ 9223372036854775807) : wI n = n := by
  unfold wI
  simp [IntKind.wrap, IntKind.bits, IntKind.signed]
  split <;> omega
theorem wI_zero {s m : Nat} (h : s ≤ 9223372036854775807) (h0 : m = 0) : wI ((s : Int) + (m : Nat)) = s := by
  subst h0
  rw [wI_in (by omega) (by omega)]; omega
attribute [go_sem] begV
theorem cb49 : callB Tryz.prog 49 = true := by kernel_rfl
theorem f49_walk (x : Int) : CallsA Tryz.prog 49 [.d (i64 x)] [] (.d (i64 (drawR x))) [] := by
  refine callsW_of (fn := Tryz.f49) [.tmp 2] Tryz.func49 rfl rfl (by show 1 ≤ 8; omega) ?_
  refine wpA_reg [0] [] rfl (by simp only [go_sem, Nat.reduceBEq, Nat.reduceAdd, Nat.reduceEqDiff, Nat.reduceLeDiff, Nat.reduceLT, Nat.reduceMul]; with_reducible rfl) (by first | trivial | omega | (simp +contextual [inI64] <;> omega)) ?_
  refine wpA_seq ?_
  refine wpA_reg [0, 4] [] rfl (by simp only [go_sem, Nat.reduceBEq, Nat.reduceAdd, Nat.reduceEqDiff, Nat.reduceLeDiff, Nat.reduceLT, Nat.reduceMul]; with_reducible rfl) (by first | trivial | omega | (simp +contextual [inI64] <;> omega)) ?_
  refine wpA_cond rfl (fun hd => ?_) (fun hd => ?_)
  · have h0 := hd
    refine wpA_reg [2] [] rfl (by simp only [go_sem, Nat.reduceBEq, Nat.reduceAdd, Nat.reduceEqDiff, Nat.reduceLeDiff, Nat.reduceLT, Nat.reduceMul]; with_reducible rfl) (by first | trivial | omega | (simp +contextual [inI64] <;> omega)) ?_
    refine wpA_ret (tR ?_)
    refine endD (.inr rfl) (by simp only [go_sem, Nat.reduceBEq, Nat.reduceAdd, Nat.reduceEqDiff, Nat.reduceLeDiff, Nat.reduceLT, Nat.reduceMul]; with_reducible rfl) ?_
    simp only [go_sem, Nat.reduceBEq, Nat.reduceAdd, Nat.reduceEqDiff, Nat.reduceLeDiff, Nat.reduceLT, Nat.reduceMul]
    rw [drawR, if_pos (of_decide_eq_true h0)]
  · have h0 := hd
    refine wpA_skip ?_
    refine tN ?_
    refine wpA_seq ?_
    refine wpA_reg [0, 6] [] rfl (by simp only [go_sem, Nat.reduceBEq, Nat.reduceAdd, Nat.reduceEqDiff, Nat.reduceLeDiff, Nat.reduceLT, Nat.reduceMul]; with_reducible rfl) (by first | trivial | omega | (simp +contextual [inI64] <;> omega)) ?_
    refine wpA_cond rfl (fun hd => ?_) (fun hd => ?_)
    · have h1 := hd
      refine wpA_reg [2] [] rfl (by simp only [go_sem, Nat.reduceBEq, Nat.reduceAdd, Nat.reduceEqDiff, Nat.reduceLeDiff, Nat.reduceLT, Nat.reduceMul]; with_reducible rfl) (by first | trivial | omega | (simp +contextual [inI64] <;> omega)) ?_
      refine wpA_ret (tR ?_)
      refine endD (.inr rfl) (by simp only [go_sem, Nat.reduceBEq, Nat.reduceAdd, Nat.reduceEqDiff, Nat.reduceLeDiff, Nat.reduceLT, Nat.reduceMul]; with_reducible rfl) ?_
      simp only [go_sem, Nat.reduceBEq, Nat.reduceAdd, Nat.reduceEqDiff, Nat.reduceLeDiff, Nat.reduceLT, Nat.reduceMul]
      rw [drawR, if_neg (of_decide_eq_false h0), if_pos (of_decide_eq_true h1)]
    · have h1 := hd
      refine wpA_skip ?_
      refine tN ?_
      refine wpA_reg [2] [] rfl (by simp only [go_sem, Nat.reduceBEq, Nat.reduceAdd, Nat.reduceEqDiff, Nat.reduceLeDiff, Nat.reduceLT, Nat.reduceMul]; with_reducible rfl) (by first | trivial | omega | (simp +contextual [inI64] <;> omega)) ?_
      refine wpA_ret ?_
      refine endD (.inr rfl) (by simp only [go_sem, Nat.reduceBEq, Nat.reduceAdd, Nat.reduceEqDiff, Nat.reduceLeDiff, Nat.reduceLT, Nat.reduceMul]; with_reducible rfl) ?_
      simp only [go_sem, Nat.reduceBEq, Nat.reduceAdd, Nat.reduceEqDiff, Nat.reduceLeDiff, Nat.reduceLT, Nat.reduceMul]
      rw [drawR, if_neg (of_decide_eq_false h0), if_neg (of_decide_eq_false h1)]

theorem cb13 : callB Tryz.prog 13 = true := by kernel_rfl
theorem f13_walk (id : Int) (h : Hard) (x : Int) : CallsA Tryz.prog 13 [.d (i64 id), .agg (hardV h), .d (i64 x)] [] (begV (beginF id h x)) [] := by
  refine callsW_of (fn := Tryz.f13) [.cell 6 30, .tmp 7] Tryz.func13 rfl rfl (by show 3 ≤ 23; omega) ?_
  refine wpA_reg [0, 2, 4, 6] [] rfl (by simp only [go_sem, Nat.reduceBEq, Nat.reduceAdd, Nat.reduceEqDiff, Nat.reduceLeDiff, Nat.reduceLT, Nat.reduceMul]; with_reducible rfl) (by first | trivial | omega | (simp +contextual [inI64] <;> omega)) ?_
  refine wpA_reg [6, 8] [] rfl (by simp only [go_sem, Nat.reduceBEq, Nat.reduceAdd, Nat.reduceEqDiff, Nat.reduceLeDiff, Nat.reduceLT, Nat.reduceMul]; with_reducible rfl) (by first | trivial | omega | (simp +contextual [inI64] <;> omega)) ?_
  refine wpA_seq ?_
  refine wpA_reg [6, 8, 20] [usePure (f19_walk (beginN id h (drawF x))) rfl cb19] rfl (by simp only [go_sem, beginN, drawF, List.map_nil, Nat.reduceBEq, Nat.reduceAdd, Nat.reduceEqDiff, Nat.reduceLeDiff, Nat.reduceLT, Nat.reduceMul]; with_reducible rfl) (by first | trivial | omega | (simp +contextual [inI64] <;> omega)) ?_
  refine wpA_cond rfl (fun hd => ?_) (fun hd => ?_)
  · have h0 := hd
    refine wpA_reg [6, 7] [] rfl (by simp only [go_sem, Nat.reduceBEq, Nat.reduceAdd, Nat.reduceEqDiff, Nat.reduceLeDiff, Nat.reduceLT, Nat.reduceMul]; with_reducible rfl) (by first | trivial | omega | (simp +contextual [inI64] <;> omega)) ?_
    refine wpA_ret (tR ?_)
    refine endL (l := [.agg (nodeV node0), .d (i64 1)]) [] (.inr rfl) (by simp only [go_sem, Nat.reduceBEq, Nat.reduceAdd, Nat.reduceEqDiff, Nat.reduceLeDiff, Nat.reduceLT, Nat.reduceMul]; with_reducible rfl) trivial (by simp) trivial (by simp only [go_sem, beginN, drawF, Nat.reduceBEq, Nat.reduceAdd, Nat.reduceEqDiff, Nat.reduceLeDiff, Nat.reduceLT, Nat.reduceMul] <;> simp [snapL, snap, leL, le, leD, recs, ints, peers, msgs, i64, str, boo, node0, beginN, drawF]) ?_
    have h9 : (!(electR (beginN id h (drawF x)))) = true := h0
    rw [beginF, if_neg (by simpa using h9)]
    rfl
  · have h0 := hd
    refine wpA_skip ?_
    refine tN ?_
    refine wpA_reg [6, 7] [] rfl (by simp only [go_sem, Nat.reduceBEq, Nat.reduceAdd, Nat.reduceEqDiff, Nat.reduceLeDiff, Nat.reduceLT, Nat.reduceMul]; with_reducible rfl) (by first | trivial | omega | (simp +contextual [inI64] <;> omega)) ?_
    refine wpA_ret ?_
    refine endL (l := [.agg (nodeV (beginN id h (drawF x))), .d (i64 0)]) [] (.inr rfl) (by simp only [go_sem, Nat.reduceBEq, Nat.reduceAdd, Nat.reduceEqDiff, Nat.reduceLeDiff, Nat.reduceLT, Nat.reduceMul]; with_reducible rfl) trivial (by simp) trivial (by simp only [go_sem, beginN, drawF, Nat.reduceBEq, Nat.reduceAdd, Nat.reduceEqDiff, Nat.reduceLeDiff, Nat.reduceLT, Nat.reduceMul] <;> simp [snapL, snap, leL, le, leD, recs, ints, peers, msgs, i64, str, boo, node0, beginN, drawF]) ?_
    have h9 : (!(electR (beginN id h (drawF x)))) = false := h0
    rw [beginF, if_pos (by simpa using h9)]
    rfl

theorem cb14 : callB Tryz.prog 14 = true := by kernel_rfl
theorem f14_walk (id : Int) (h : Hard) (x : Int) : CallsA Tryz.prog 14 [.d (i64 id), .agg (hardV h), .d (i64 x)] [] (begV (beginR id h x)) [] := by
  refine callsW_of (fn := Tryz.f14) [.cell 6 30, .tmp 7] Tryz.func14 rfl rfl (by show 3 ≤ 22; omega) ?_
  refine wpA_reg [0, 2, 4, 6] [] rfl (by simp only [go_sem, Nat.reduceBEq, Nat.reduceAdd, Nat.reduceEqDiff, Nat.reduceLeDiff, Nat.reduceLT, Nat.reduceMul]; with_reducible rfl) (by first | trivial | omega | (simp +contextual [inI64] <;> omega)) ?_
  refine wpA_regD [[0], [4], [2], [11], [4], [13], [14], [9, 10, 12, 15], [], [8, 16]] [6, 8] [usePure (f49_walk x) rfl cb49] mx rfl (by simp only [go_sem, Nat.reduceBEq, Nat.reduceAdd, Nat.reduceEqDiff, Nat.reduceLeDiff, Nat.reduceLT, Nat.reduceMul]; with_reducible rfl) (by kernel_rfl) (by first | trivial | omega | (simp +contextual [inI64] <;> omega)) ?_
  refine wpA_seq ?_
  refine wpA_reg [6, 8, 19] [usePure (f7_walk (beginN id h (drawR x))) rfl cb7] rfl (by simp only [go_sem, beginN, drawF, List.map_nil, Nat.reduceBEq, Nat.reduceAdd, Nat.reduceEqDiff, Nat.reduceLeDiff, Nat.reduceLT, Nat.reduceMul]; with_reducible rfl) (by first | trivial | omega | (simp +contextual [inI64] <;> omega)) ?_
  refine wpA_cond rfl (fun hd => ?_) (fun hd => ?_)
  · have h0 := hd
    refine wpA_reg [6, 7] [] rfl (by simp only [go_sem, Nat.reduceBEq, Nat.reduceAdd, Nat.reduceEqDiff, Nat.reduceLeDiff, Nat.reduceLT, Nat.reduceMul]; with_reducible rfl) (by first | trivial | omega | (simp +contextual [inI64] <;> omega)) ?_
    refine wpA_ret (tR ?_)
    refine endL (l := [.agg (nodeV node0), .d (i64 1)]) [] (.inr rfl) (by simp only [go_sem, Nat.reduceBEq, Nat.reduceAdd, Nat.reduceEqDiff, Nat.reduceLeDiff, Nat.reduceLT, Nat.reduceMul]; with_reducible rfl) trivial (by simp) trivial (by simp only [go_sem, beginN, drawF, Nat.reduceBEq, Nat.reduceAdd, Nat.reduceEqDiff, Nat.reduceLeDiff, Nat.reduceLT, Nat.reduceMul] <;> simp [snapL, snap, leL, le, leD, recs, ints, peers, msgs, i64, str, boo, node0, beginN, drawF]) ?_
    have h9 : (!(refR (beginN id h (drawR x)))) = true := h0
    rw [beginR, if_neg (by simpa using h9)]
    rfl
  · have h0 := hd
    refine wpA_skip ?_
    refine tN ?_
    refine wpA_reg [6, 7] [] rfl (by simp only [go_sem, Nat.reduceBEq, Nat.reduceAdd, Nat.reduceEqDiff, Nat.reduceLeDiff, Nat.reduceLT, Nat.reduceMul]; with_reducible rfl) (by first | trivial | omega | (simp +contextual [inI64] <;> omega)) ?_
    refine wpA_ret ?_
    refine endL (l := [.agg (nodeV (beginN id h (drawR x))), .d (i64 0)]) [] (.inr rfl) (by simp only [go_sem, Nat.reduceBEq, Nat.reduceAdd, Nat.reduceEqDiff, Nat.reduceLeDiff, Nat.reduceLT, Nat.reduceMul]; with_reducible rfl) trivial (by simp) trivial (by simp only [go_sem, beginN, drawF, Nat.reduceBEq, Nat.reduceAdd, Nat.reduceEqDiff, Nat.reduceLeDiff, Nat.reduceLT, Nat.reduceMul] <;> simp [snapL, snap, leL, le, leD, recs, ints, peers, msgs, i64, str, boo, node0, beginN, drawF]) ?_
    have h9 : (!(refR (beginN id h (drawR x)))) = false := h0
    rw [beginR, if_pos (by simpa using h9)]
    rfl

theorem cb75 : callB Tryz.prog 75 = true := by kernel_rfl
theorem f75_walk (n : Node) (t : Int) : CallsA Tryz.prog 75 [.agg (nodeV n), .d (i64 t)] [] (.agg (nodeV (laterF n t))) [] := by
  refine callsW_of (fn := Tryz.f75) [.cell 4 30] Tryz.func75 rfl rfl (by show 2 ≤ 28; omega) ?_
  refine wpA_reg [1, 2, 4] [] rfl (by simp only [go_sem, Nat.reduceBEq, Nat.reduceAdd, Nat.reduceEqDiff, Nat.reduceLeDiff, Nat.reduceLT, Nat.reduceMul]; with_reducible rfl) (by first | trivial | omega | (simp +contextual [inI64] <;> omega)) ?_
  refine wpA_seq ?_
  refine wpA_reg [1, 2, 4, 17] [usePure (f19_walk n) rfl cb19] rfl (by simp only [go_sem, Nat.reduceBEq, Nat.reduceAdd, Nat.reduceEqDiff, Nat.reduceLeDiff, Nat.reduceLT, Nat.reduceMul]; with_reducible rfl) (by first | trivial | omega | (simp +contextual [inI64] <;> omega)) ?_
  refine wpA_cond rfl (fun hd => ?_) (fun hd => ?_)
  · have h0 := hd
    refine wpA_region [2, 4] [] rfl (by simp only [go_sem, Nat.reduceBEq, Nat.reduceAdd, Nat.reduceEqDiff, Nat.reduceLeDiff, Nat.reduceLT, Nat.reduceMul]; with_reducible rfl) (by first | trivial | omega | (simp +contextual [inI64] <;> omega)) ?_
    refine tN ?_
    refine wpA_reg [4] [] rfl (by simp only [go_sem, Nat.reduceBEq, Nat.reduceAdd, Nat.reduceEqDiff, Nat.reduceLeDiff, Nat.reduceLT, Nat.reduceMul]; with_reducible rfl) (by first | trivial | omega | (simp +contextual [inI64] <;> omega)) ?_
    refine wpA_ret ?_
    refine endL (l := [.agg (nodeV (laterN n t))]) [] (.inr rfl) (by simp only [go_sem, Nat.reduceBEq, Nat.reduceAdd, Nat.reduceEqDiff, Nat.reduceLeDiff, Nat.reduceLT, Nat.reduceMul]; with_reducible rfl) trivial (by simp) trivial (by simp only [go_sem, laterN, Nat.reduceBEq, Nat.reduceAdd, Nat.reduceEqDiff, Nat.reduceLeDiff, Nat.reduceLT, Nat.reduceMul] <;> simp [snapL, snap, leL, le, leD, recs, ints, peers, msgs, i64, str, boo, laterN]) ?_
    rw [laterF, if_pos h0]
    rfl
  · have h0 := hd
    refine wpA_skip ?_
    refine tN ?_
    refine wpA_reg [4] [] rfl (by simp only [go_sem, Nat.reduceBEq, Nat.reduceAdd, Nat.reduceEqDiff, Nat.reduceLeDiff, Nat.reduceLT, Nat.reduceMul]; with_reducible rfl) (by first | trivial | omega | (simp +contextual [inI64] <;> omega)) ?_
    refine wpA_ret ?_
    refine endL (l := [.agg (nodeV n)]) [] (.inr rfl) (by simp only [go_sem, Nat.reduceBEq, Nat.reduceAdd, Nat.reduceEqDiff, Nat.reduceLeDiff, Nat.reduceLT, Nat.reduceMul]; with_reducible rfl) trivial (by simp) trivial (by simp only [go_sem, laterN, Nat.reduceBEq, Nat.reduceAdd, Nat.reduceEqDiff, Nat.reduceLeDiff, Nat.reduceLT, Nat.reduceMul] <;> simp [snapL, snap, leL, le, leD, recs, ints, peers, msgs, i64, str, boo, laterN]) ?_
    rw [laterF, if_neg (by rw [h0]; simp)]
    rfl

theorem cb78 : callB Tryz.prog 78 = true := by kernel_rfl
theorem f78_walk (n : Node) (t : Int) : CallsA Tryz.prog 78 [.agg (nodeV n), .d (i64 t)] [] (.agg (nodeV (laterR n t))) [] := by
  refine callsW_of (fn := Tryz.f78) [.cell 4 30] Tryz.func78 rfl rfl (by show 2 ≤ 31; omega) ?_
  refine wpA_reg [1, 2, 4] [] rfl (by simp only [go_sem, Nat.reduceBEq, Nat.reduceAdd, Nat.reduceEqDiff, Nat.reduceLeDiff, Nat.reduceLT, Nat.reduceMul]; with_reducible rfl) (by first | trivial | omega | (simp +contextual [inI64] <;> omega)) ?_
  refine wpA_seq ?_
  refine wpA_reg [1, 2, 4, 14] [] rfl (by simp only [go_sem, Nat.reduceBEq, Nat.reduceAdd, Nat.reduceEqDiff, Nat.reduceLeDiff, Nat.reduceLT, Nat.reduceMul]; with_reducible rfl) (by first | trivial | omega | (simp +contextual [inI64] <;> omega)) ?_
  refine wpA_cond rfl (fun hd => ?_) (fun hd => ?_)
  · have h0 := hd
    refine wpA_reg [4] [] rfl (by simp only [go_sem, Nat.reduceBEq, Nat.reduceAdd, Nat.reduceEqDiff, Nat.reduceLeDiff, Nat.reduceLT, Nat.reduceMul]; with_reducible rfl) (by first | trivial | omega | (simp +contextual [inI64] <;> omega)) ?_
    refine wpA_ret (tR ?_)
    refine endL (l := [.agg (nodeV n)]) [] (.inr rfl) (by simp only [go_sem, Nat.reduceBEq, Nat.reduceAdd, Nat.reduceEqDiff, Nat.reduceLeDiff, Nat.reduceLT, Nat.reduceMul]; with_reducible rfl) trivial (by simp) trivial (by simp only [go_sem, laterN, Nat.reduceBEq, Nat.reduceAdd, Nat.reduceEqDiff, Nat.reduceLeDiff, Nat.reduceLT, Nat.reduceMul] <;> simp [snapL, snap, leL, le, leD, recs, ints, peers, msgs, i64, str, boo, laterN]) ?_
    rw [laterR, if_pos h0]
    rfl
  · have h0 := hd
    refine wpA_skip ?_
    refine tN ?_
    refine wpA_reg [1, 4, 5] [] rfl (by simp only [go_sem, Nat.reduceBEq, Nat.reduceAdd, Nat.reduceEqDiff, Nat.reduceLeDiff, Nat.reduceLT, Nat.reduceMul]; with_reducible rfl) (by first | trivial | omega | (simp +contextual [inI64] <;> omega)) ?_
    refine wpA_reg [4, 5] [] rfl (by simp only [go_sem, Nat.reduceBEq, Nat.reduceAdd, Nat.reduceEqDiff, Nat.reduceLeDiff, Nat.reduceLT, Nat.reduceMul]; with_reducible rfl) (by first | trivial | omega | (simp +contextual [inI64] <;> omega)) ?_
    refine wpA_reg [4, 5] [] rfl (by simp only [go_sem, Nat.reduceBEq, Nat.reduceAdd, Nat.reduceEqDiff, Nat.reduceLeDiff, Nat.reduceLT, Nat.reduceMul]; with_reducible rfl) (by first | trivial | omega | (simp +contextual [inI64] <;> omega)) ?_
    refine wpA_reg [4] [] rfl (by simp only [go_sem, Nat.reduceBEq, Nat.reduceAdd, Nat.reduceEqDiff, Nat.reduceLeDiff, Nat.reduceLT, Nat.reduceMul]; with_reducible rfl) (by first | trivial | omega | (simp +contextual [inI64] <;> omega)) ?_
    refine wpA_ret ?_
    refine endL (l := [.agg (nodeV (laterN n t))]) [] (.inr rfl) (by simp only [go_sem, Nat.reduceBEq, Nat.reduceAdd, Nat.reduceEqDiff, Nat.reduceLeDiff, Nat.reduceLT, Nat.reduceMul]; with_reducible rfl) trivial (by simp) trivial (by simp only [go_sem, laterN, Nat.reduceBEq, Nat.reduceAdd, Nat.reduceEqDiff, Nat.reduceLeDiff, Nat.reduceLT, Nat.reduceMul] <;> simp [snapL, snap, leL, le, leD, recs, ints, peers, msgs, i64, str, boo, laterN]) ?_
    rw [laterR, if_neg (by rw [h0]; simp)]
    rfl

theorem cb77 : callB Tryz.prog 77 = true := by kernel_rfl
theorem f77_walk (a b : List Int) (ha : a.length ≤ 1000000) (hb : b.length ≤ 1000000) : CallsA Tryz.prog 77 [.d (ints a), .d (ints b)] [] (.d (boo (winsF a b))) [] := by
  have hk1 := sameL_le a b
  refine callsW_of (fn := Tryz.f77) [.tmp 4] Tryz.func77 rfl rfl (by show 2 ≤ 17; omega) ?_
  refine wpA_reg [0, 1] [] rfl (by simp only [go_sem, Nat.reduceBEq, Nat.reduceAdd, Nat.reduceEqDiff, Nat.reduceLeDiff, Nat.reduceLT, Nat.reduceMul]; with_reducible rfl) (by first | trivial | omega | (simp +contextual [inI64] <;> omega)) ?_
  refine wpA_reg [4] [usePure (f56_walk a) rfl cb56, usePure (f64_walk a b) rfl cb64, usePure (f63_B a b (by omega) (by omega)) rfl cb63] rfl (by simp only [go_sem, Nat.reduceBEq, Nat.reduceAdd, Nat.reduceEqDiff, Nat.reduceLeDiff, Nat.reduceLT, Nat.reduceMul]; with_reducible rfl) (by first | trivial | omega | (simp +contextual [inI64] <;> omega)) ?_
  refine wpA_ret ?_
  refine endD (.inr rfl) (by simp only [go_sem, Nat.reduceBEq, Nat.reduceAdd, Nat.reduceEqDiff, Nat.reduceLeDiff, Nat.reduceLT, Nat.reduceMul]; with_reducible rfl) ?_
  simp only [go_sem, Nat.reduceBEq, Nat.reduceAdd, Nat.reduceEqDiff, Nat.reduceLeDiff, Nat.reduceLT, Nat.reduceMul]
  rfl

theorem cb80 : callB Tryz.prog 80 = true := by kernel_rfl
theorem f80_walk (a b : List Int) (ha : a.length ≤ 1000000) : CallsA Tryz.prog 80 [.d (ints a), .d (ints b)] [] (.d (boo (wins16 a b))) [] := by
  refine callsW_of (fn := Tryz.f80) [.tmp 4] Tryz.func80 rfl rfl (by show 2 ≤ 30; omega) ?_
  refine wpA_reg [0, 1] [] rfl (by simp only [go_sem, Nat.reduceBEq, Nat.reduceAdd, Nat.reduceEqDiff, Nat.reduceLeDiff, Nat.reduceLT, Nat.reduceMul]; with_reducible rfl) (by first | trivial | omega | (simp +contextual [inI64] <;> omega)) ?_
  refine wpA_reg [0, 1, 5] [] rfl (by simp only [go_sem, Nat.reduceBEq, Nat.reduceAdd, Nat.reduceEqDiff, Nat.reduceLeDiff, Nat.reduceLT, Nat.reduceMul]; with_reducible rfl) (by first | trivial | omega | (simp +contextual [inI64] <;> omega)) ?_
  refine wpA_seq ?_
  refine wpA_reg [0, 1, 5, 8, 9, 10] [] rfl (by simp only [go_sem, Nat.reduceBEq, Nat.reduceAdd, Nat.reduceEqDiff, Nat.reduceLeDiff, Nat.reduceLT, Nat.reduceMul]; with_reducible rfl) (by first | trivial | omega | (simp +contextual [inI64] <;> omega)) ?_
  refine wpA_block ?_
  refine wpA_loop (fun j : Nat => ⟨[(0, .d (ints a)), (1, .d (ints b)), (5, .d (i64 (cntW a b j))), (8, .d (ints a)), (9, .d (i64 a.length)), (10, .d (i64 j))], [], 0⟩) (fun j => j ≤ a.length) (fun j => a.length - j) 0 (weak_of (bs := []) [] trivial (by simp) trivial (by simp only [go_sem, Int.natCast_zero, cntW_zero, Nat.reduceBEq])) (Nat.zero_le _) (fun j hj => ?_)
  refine wpA_reg [0, 1, 5, 8, 9, 10, 11] [] rfl (by simp only [go_sem, Nat.reduceBEq, Nat.reduceAdd, Nat.reduceEqDiff, Nat.reduceLeDiff, Nat.reduceLT, Nat.reduceMul]; with_reducible rfl) (by first | trivial | omega | (simp +contextual [inI64] <;> omega)) ?_
  refine wpA_seq ?_
  refine wpA_cond rfl (fun hc => ?_) (fun hc => ?_)
  · have hc : j < a.length := by simpa using hc
    have hg := ints_getD a hc
    have e : ((j : Int) - 1).toNat = j - 1 := by omega
    have hg2 := ints_getD a (j := j - 1) (by omega)
    have hl := ints_len a
    have hw := cntW_le a b j
    refine wpA_skip ?_
    refine tN ?_
    refine wpA_seq ?_
    refine wpA_block ?_
    refine wpA_reg [0, 1, 5, 7, 8, 9, 10] [] rfl (by simp only [go_sem, hg, hg2, e, encI, Nat.reduceBEq, Nat.reduceAdd, Nat.reduceEqDiff, Nat.reduceLeDiff, Nat.reduceLT, Nat.reduceMul]; with_reducible rfl) (by first | trivial | omega | (simp +contextual [inI64, hl, hc] <;> omega)) ?_
    refine wpA_reg [0, 1, 5, 8, 9, 10, 16] [usePure (f41_walk b (iAt a j)) rfl cb41] rfl (by simp only [go_sem, hg, hg2, e, encI, Nat.reduceBEq, Nat.reduceAdd, Nat.reduceEqDiff, Nat.reduceLeDiff, Nat.reduceLT, Nat.reduceMul]; with_reducible rfl) (by first | trivial | omega | (simp +contextual [inI64, hl, hc] <;> omega)) ?_
    refine wpA_cond rfl (fun hd => ?_) (fun hd => ?_)
    · have h0 := hd
      refine wpA_region [0, 1, 5, 8, 9, 10] [] rfl (by simp only [go_sem, hg, hg2, e, encI, Nat.reduceBEq, Nat.reduceAdd, Nat.reduceEqDiff, Nat.reduceLeDiff, Nat.reduceLT, Nat.reduceMul]; with_reducible rfl) (by first | trivial | omega | (simp +contextual [inI64, hl, hc] <;> omega)) ?_
      refine bN (tN ?_)
      refine wpA_region [0, 1, 5, 8, 9, 10] [] rfl (by simp only [go_sem, hg, hg2, e, encI, Nat.reduceBEq, Nat.reduceAdd, Nat.reduceEqDiff, Nat.reduceLeDiff, Nat.reduceLT, Nat.reduceMul]; with_reducible rfl) (by first | trivial | omega | (simp +contextual [inI64, hl, hc] <;> omega)) ?_
      refine tN ?_
      refine ⟨j + 1, hc, by omega, weak_of (bs := []) [] trivial (by simp) trivial (by simp only [go_sem, Int.natCast_add, Int.natCast_one, cntW_yes hc hd, Nat.reduceBEq])⟩
    · have h0 := hd
      refine wpA_skip ?_
      refine bN (tN ?_)
      refine wpA_region [0, 1, 5, 8, 9, 10] [] rfl (by simp only [go_sem, hg, hg2, e, encI, Nat.reduceBEq, Nat.reduceAdd, Nat.reduceEqDiff, Nat.reduceLeDiff, Nat.reduceLT, Nat.reduceMul]; with_reducible rfl) (by first | trivial | omega | (simp +contextual [inI64, hl, hc] <;> omega)) ?_
      refine tN ?_
      refine ⟨j + 1, hc, by omega, weak_of (bs := []) [] trivial (by simp) trivial (by simp only [go_sem, Int.natCast_add, Int.natCast_one, cntW_no hc hd, Nat.reduceBEq])⟩
  · have hc : j = a.length := by simp at hc; omega
    subst hc
    have hw := cntW_le a b a.length
    refine wpA_exit (tE (tE (bE ?_)))
    refine tN ?_
    refine wpA_reg [4] [usePure (f32_walk a) rfl cb32] rfl (by simp only [go_sem, Nat.reduceBEq, Nat.reduceAdd, Nat.reduceEqDiff, Nat.reduceLeDiff, Nat.reduceLT, Nat.reduceMul]; with_reducible rfl) (by first | trivial | omega | (simp +contextual [inI64] <;> omega)) ?_
    refine wpA_ret ?_
    refine endD (.inr rfl) (by simp only [go_sem, Nat.reduceBEq, Nat.reduceAdd, Nat.reduceEqDiff, Nat.reduceLeDiff, Nat.reduceLT, Nat.reduceMul]; with_reducible rfl) ?_
    simp only [go_sem, Nat.reduceBEq, Nat.reduceAdd, Nat.reduceEqDiff, Nat.reduceLeDiff, Nat.reduceLT, Nat.reduceMul]
    rfl

theorem cb12 : callB Tryz.prog 12 = true := by kernel_rfl
theorem f12_walk (n : Node) (m : Msg) (hs0 : n.hard.snap.size ≤ 9223372036854775807) (hm0 : m.snap.size = 0) : CallsA Tryz.prog 12 [.agg (nodeV n), .agg (msgV m)] [] (.d (boo (small18 n m))) [] := by
  refine callsA_lenA (k := 0) (i := 5) rfl rfl fun hlen => ?_
  rw [List.length_map] at hlen
  have hws : wI ((n.hard.snap.size : Int) + (m.snap.size : Nat)) = n.hard.snap.size := wI_zero hs0 hm0
  refine callsW_of (fn := Tryz.f12) [.tmp 4] Tryz.func12 rfl rfl (by show 2 ≤ 46; omega) ?_
  refine wpA_reg [2, 3] [] rfl (by simp only [go_sem, Nat.reduceBEq, Nat.reduceAdd, Nat.reduceEqDiff, Nat.reduceLeDiff, Nat.reduceLT, Nat.reduceMul]; with_reducible rfl) (by first | trivial | omega | (simp +contextual [inI64] <;> omega)) ?_
  refine wpA_regU [2, 3, 5] [] rfl (by simp only [go_sem, hws, Nat.reduceBEq, Nat.reduceAdd, Nat.reduceEqDiff, Nat.reduceLeDiff, Nat.reduceLT, Nat.reduceMul]; with_reducible rfl) (by first | trivial | omega | (simp +contextual [inI64] <;> omega)) ?_
  refine wpA_seq ?_
  refine wpA_reg [3, 5, 19, 20, 21] [] rfl (by simp only [go_sem, Nat.reduceBEq, Nat.reduceAdd, Nat.reduceEqDiff, Nat.reduceLeDiff, Nat.reduceLT, Nat.reduceMul]; with_reducible rfl) (by first | trivial | omega | (simp +contextual [inI64] <;> omega)) ?_
  refine wpA_block ?_
  refine wpA_loop (fun j : Nat => ⟨[(3, .ptr 0 0), (5, .d (i64 (sizeTo n j))), (19, .d (recs n.hard.log.recs)), (20, .d (i64 n.hard.log.recs.length)), (21, .d (i64 j))], enum [.var 33 (msgV m)] 0, 1⟩) (fun j => j ≤ n.hard.log.recs.length ∧ allTo (okS n) j = true) (fun j => n.hard.log.recs.length - j) 0 (weak_of [1] trivial (by simp) (by simp only [go_sem, Int.natCast_zero, sizeTo_zero, Nat.reduceBEq, Nat.reduceAdd, Nat.reduceEqDiff, Nat.reduceLeDiff, Nat.reduceLT, Nat.reduceMul]) (by simp only [go_sem, Int.natCast_zero, sizeTo_zero, Nat.reduceBEq, Nat.reduceAdd, Nat.reduceEqDiff, Nat.reduceLeDiff, Nat.reduceLT, Nat.reduceMul])) ⟨Nat.zero_le _, rfl⟩ (fun j hj => ?_)
  obtain ⟨hj, hjv⟩ := hj
  refine wpA_reg [3, 5, 19, 20, 21, 22] [] rfl (by simp only [go_sem, Nat.reduceBEq, Nat.reduceAdd, Nat.reduceEqDiff, Nat.reduceLeDiff, Nat.reduceLT, Nat.reduceMul]; with_reducible rfl) (by first | trivial | omega | (simp +contextual [inI64] <;> omega)) ?_
  refine wpA_seq ?_
  refine wpA_cond rfl (fun hc => ?_) (fun hc => ?_)
  · have hc : j < n.hard.log.recs.length := by simpa using hc
    have hg := recs_getD n.hard.log.recs hc
    have e : ((j : Int) - 1).toNat = j - 1 := by omega
    have hg2 := recs_getD n.hard.log.recs (j := j - 1) (by omega)
    have hl := recs_len n.hard.log.recs
    refine wpA_skip ?_
    refine tN ?_
    refine wpA_seq ?_
    refine wpA_block ?_
    refine wpA_reg [3, 5, 6, 7, 19, 20, 21] [] rfl (by simp only [go_sem, hg, hg2, e, encRec, Nat.reduceBEq, Nat.reduceAdd, Nat.reduceEqDiff, Nat.reduceLeDiff, Nat.reduceLT, Nat.reduceMul]; with_reducible rfl) (by first | trivial | omega | (simp +contextual [inI64, hl, hc] <;> omega)) ?_
    refine wpA_regU [3, 5, 6, 19, 20, 21] [] rfl (by simp only [go_sem, hg, hg2, e, encRec, Nat.reduceBEq, Nat.reduceAdd, Nat.reduceEqDiff, Nat.reduceLeDiff, Nat.reduceLT, Nat.reduceMul]; with_reducible rfl) (by first | trivial | omega | (simp +contextual [inI64, hl, hc] <;> omega)) ?_
    refine wpA_reg [3, 5, 19, 20, 21, 36] [] rfl (by simp only [go_sem, hg, hg2, e, encRec, Nat.reduceBEq, Nat.reduceAdd, Nat.reduceEqDiff, Nat.reduceLeDiff, Nat.reduceLT, Nat.reduceMul]; with_reducible rfl) (by first | trivial | omega | (simp +contextual [inI64, hl, hc] <;> omega)) ?_
    refine wpA_cond rfl (fun hd => ?_) (fun hd => ?_)
    · have h0 := hd
      refine wpA_reg [4] [] rfl (by simp only [go_sem, hg, hg2, e, encRec, Nat.reduceBEq, Nat.reduceAdd, Nat.reduceEqDiff, Nat.reduceLeDiff, Nat.reduceLT, Nat.reduceMul]; with_reducible rfl) (by first | trivial | omega | (simp +contextual [inI64, hl, hc] <;> omega)) ?_
      refine wpA_ret (bR (tR (tR (bR (tR ?_)))))
      refine endD (.inr rfl) (by simp only [go_sem, Nat.reduceBEq, Nat.reduceAdd, Nat.reduceEqDiff, Nat.reduceLeDiff, Nat.reduceLT, Nat.reduceMul]; with_reducible rfl) ?_
      simp only [go_sem]
      rw [small18, all_no hc (by rw [okS, sizeTo_next, hd]; rfl)]; rfl
    · have h0 := hd
      refine wpA_skip ?_
      refine bN (tN ?_)
      refine wpA_region [3, 5, 19, 20, 21] [] rfl (by simp only [go_sem, hg, hg2, e, encRec, Nat.reduceBEq, Nat.reduceAdd, Nat.reduceEqDiff, Nat.reduceLeDiff, Nat.reduceLT, Nat.reduceMul]; with_reducible rfl) (by first | trivial | omega | (simp +contextual [inI64, hl, hc] <;> omega)) ?_
      refine tN ?_
      refine ⟨j + 1, ⟨hc, ?_⟩, by omega, weak_of [0] trivial (by simp) (by simp only [go_sem, Int.natCast_add, Int.natCast_one, sizeTo_next, Nat.reduceBEq, Nat.reduceAdd, Nat.reduceEqDiff, Nat.reduceLeDiff, Nat.reduceLT, Nat.reduceMul]) (by simp only [go_sem, Int.natCast_add, Int.natCast_one, sizeTo_next, Nat.reduceBEq, Nat.reduceAdd, Nat.reduceEqDiff, Nat.reduceLeDiff, Nat.reduceLT, Nat.reduceMul])⟩
      exact all_step hjv (by rw [okS, sizeTo_next, hd]; rfl)
  · have hc : j = n.hard.log.recs.length := by simp at hc; omega
    subst hc
    have hall0 := hjv
    refine wpA_exit (tE (tE (bE ?_)))
    refine tN ?_
    refine wpA_reg [4] [] rfl (by simp only [go_sem, Nat.reduceBEq, Nat.reduceAdd, Nat.reduceEqDiff, Nat.reduceLeDiff, Nat.reduceLT, Nat.reduceMul]; with_reducible rfl) (by first | trivial | omega | (simp +contextual [inI64] <;> omega)) ?_
    refine wpA_ret ?_
    refine endD (.inr rfl) (by simp only [go_sem, Nat.reduceBEq, Nat.reduceAdd, Nat.reduceEqDiff, Nat.reduceLeDiff, Nat.reduceLT, Nat.reduceMul]; with_reducible rfl) ?_
    simp only [go_sem]
    rw [small18, hjv]; rfl

end Go.Abs
