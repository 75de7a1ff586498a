/- Walks: a server stands. No conditions. -/
import Derived.Test.YtninaiooagfjfaaGreatDoorK48
set_option linter.unusedVariables false
set_option linter.unusedSimpArgs false
set_option maxRecDepth 20000
namespace Go.Abs
open Go Go.RowKit Go.Proofs

def askM (n : Node) (at_ lt v : Int) : Msg := { kind := 1, src := n.id, dst := v, term := n.hard.term, ok := false, index := at_, lterm := lt, recs := [], commit := 0, snap := ⟨⟨[]⟩⟩, voters := [] }
def askL (m : Node) (at_ lt : Int) (vs : List Int) : Nat → List Msg
  | 0 => []
  | j + 1 => if iAt vs j = m.id then askL m at_ lt vs j else askL m at_ lt vs j ++ [askM m at_ lt (iAt vs j)]
theorem askL_zero (m : Node) (at_ lt : Int) (vs : List Int) : askL m at_ lt vs 0 = [] := rfl
theorem askL_len (m : Node) (at_ lt : Int) (vs : List Int) : ∀ j, (askL m at_ lt vs j).length ≤ j
  | 0 => Nat.le_refl _
  | j + 1 => by
    rw [askL]
    have := askL_len m at_ lt vs j
    split
    · omega
    · simp; omega
section
variable {m : Node} {at_ lt : Int} {vs : List Int} {j : Nat}
theorem askL_yes (h : decide (iAt vs j ≠ m.id) = true) : (askL m at_ lt vs (j + 1)).map encMsg = (askL m at_ lt vs j).map encMsg ++ [[.lit (.int .i64 (askM m at_ lt (iAt vs j)).kind), .lit (.int .i64 (askM m at_ lt (iAt vs j)).src), .lit (.int .i64 (askM m at_ lt (iAt vs j)).dst), .lit (.int .i64 (askM m at_ lt (iAt vs j)).term), .lit (.bool (askM m at_ lt (iAt vs j)).ok), .lit (.int .i64 (askM m at_ lt (iAt vs j)).index), .lit (.int .i64 (askM m at_ lt (iAt vs j)).lterm), .lst ((askM m at_ lt (iAt vs j)).recs.map encRec), .lit (.int .i64 (askM m at_ lt (iAt vs j)).commit), .lit (.string (askM m at_ lt (iAt vs j)).snap), .lst ((askM m at_ lt (iAt vs j)).voters.map encI)]] := by
  rw [askL, if_neg (of_decide_eq_true h), List.map_append]; rfl
theorem askL_no (h : decide (iAt vs j ≠ m.id) = false) : askL m at_ lt vs (j + 1) = askL m at_ lt vs j := by
  rw [askL, if_pos (by simpa using h)]
end
def stand1 (n : Node) (d : Int) : Node := { n with timer := d }
def stand2 (n : Node) (d : Int) : Node := ⟨n.id, ⟨n.hard.term + 1, 0, n.hard.log, n.hard.snap, n.hard.voters⟩, 0, 0, d, n.commit, [], []⟩
def stand3 (n : Node) (d : Int) : Node := ⟨n.id, ⟨n.hard.term + 1, n.id, n.hard.log, n.hard.snap, n.hard.voters⟩, 1, 0, d, n.commit, [n.id], []⟩
theorem stand1_id (n : Node) (d : Int) : (stand1 n d).id = n.id := rfl
theorem stand1_hard (n : Node) (d : Int) : (stand1 n d).hard = n.hard := rfl
theorem stand1_role (n : Node) (d : Int) : (stand1 n d).role = n.role := rfl
theorem stand1_lead (n : Node) (d : Int) : (stand1 n d).lead = n.lead := rfl
theorem stand1_timer (n : Node) (d : Int) : (stand1 n d).timer = d := rfl
theorem stand1_commit (n : Node) (d : Int) : (stand1 n d).commit = n.commit := rfl
theorem stand1_got (n : Node) (d : Int) : (stand1 n d).got = n.got := rfl
theorem stand1_peers (n : Node) (d : Int) : (stand1 n d).peers = n.peers := rfl
theorem stand2_id (n : Node) (d : Int) : (stand2 n d).id = n.id := rfl
theorem stand2_hard (n : Node) (d : Int) : (stand2 n d).hard = ⟨n.hard.term + 1, 0, n.hard.log, n.hard.snap, n.hard.voters⟩ := rfl
theorem stand2_role (n : Node) (d : Int) : (stand2 n d).role = 0 := rfl
theorem stand2_lead (n : Node) (d : Int) : (stand2 n d).lead = 0 := rfl
theorem stand2_timer (n : Node) (d : Int) : (stand2 n d).timer = d := rfl
theorem stand2_commit (n : Node) (d : Int) : (stand2 n d).commit = n.commit := rfl
theorem stand2_got (n : Node) (d : Int) : (stand2 n d).got = [] := rfl
theorem stand2_peers (n : Node) (d : Int) : (stand2 n d).peers = [] := rfl
theorem stand3_id (n : Node) (d : Int) : (stand3 n d).id = n.id := rfl
theorem stand3_hard (n : Node) (d : Int) : (stand3 n d).hard = ⟨n.hard.term + 1, n.id, n.hard.log, n.hard.snap, n.hard.voters⟩ := rfl
theorem stand3_role (n : Node) (d : Int) : (stand3 n d).role = 1 := rfl
theorem stand3_lead (n : Node) (d : Int) : (stand3 n d).lead = 0 := rfl
theorem stand3_timer (n : Node) (d : Int) : (stand3 n d).timer = d := rfl
theorem stand3_commit (n : Node) (d : Int) : (stand3 n d).commit = n.commit := rfl
theorem stand3_got (n : Node) (d : Int) : (stand3 n d).got = [n.id] := rfl
theorem stand3_peers (n : Node) (d : Int) : (stand3 n d).peers = [] := rfl
theorem shaped_of {h : Hard} (h1 : (0 ≤ h.term ∧ h.term ≤ 1073741824) ∧ (0 ≤ h.vote ∧ h.vote ≤ 9) ∧ (0 ≤ h.log.base ∧ h.log.base ≤ 1073741824) ∧ (0 ≤ h.log.bterm ∧ h.log.bterm ≤ h.term) ∧ h.log.recs.length ≤ 200 ∧ h.voters.length ≤ 7 ∧ h.snap.size ≤ 131072 ∧
    (h.log.base = 0 ↔ h.log.bterm = 0) ∧ h.log.base ≤ 1073741824 - (h.log.recs.length : Int) ∧ (∀ j, j < h.log.recs.length → ok99 h j = true) ∧ ∀ j, j < h.voters.length → okR h.voters j = true) : shaped h = true := by
  obtain ⟨a1, a2, a3, a4, a5, a6, a7, a8, a9, b1, b2⟩ := h1
  have e : head99 h = false := by
    have hb : (decide (h.log.base = 0) != decide (h.log.bterm = 0)) = false := by
      by_cases a : h.log.base = 0
      · have b := a8.1 a; simp [a, b]
      · have b : h.log.bterm ≠ 0 := fun e => a (a8.2 e)
        simp [a, b]
    simp [head99, inB, hb]; omega
  have h2 : allTo (ok99 h) h.log.recs.length = true := List.all_eq_true.2 fun j hj => b1 j (List.mem_range.1 hj)
  have h3 : rises h.voters = true := List.all_eq_true.2 fun j hj => b2 j (List.mem_range.1 hj)
  rw [shaped, e, h2, h3]; rfl
theorem stand_shaped {h : Hard} (hs : shaped h = true) (hT : h.term < 1073741824) {v : Int} (hv : 0 ≤ v ∧ v ≤ 9) : shaped ⟨h.term + 1, v, h.log, h.snap, h.voters⟩ = true := by
  obtain ⟨a1, a2, a3, a4, a5, a6, a7, a8, a9, b1, b2⟩ := shaped_parts hs
  refine shaped_of ⟨⟨by show 0 ≤ h.term + 1; omega, by show h.term + 1 ≤ _; omega⟩, hv, a3, ⟨a4.1, by show h.log.bterm ≤ h.term + 1; omega⟩, a5, a6, a7, a8, a9, fun j hj => ?_, b2⟩
  have := b1 j hj
  simp [ok99, inB] at this ⊢
  exact ⟨⟨⟨this.1.1.1, by omega⟩, this.1.2⟩, this.2⟩
theorem stand3_shaped {n : Node} (hs : shaped n.hard = true) (hT : n.hard.term < 1073741824) (d : Int) (hi : 1 ≤ n.id ∧ n.id ≤ 9) : shaped (stand3 n d).hard = true := stand_shaped hs hT ⟨by omega, hi.2⟩
theorem drawF_eq (x : Int) : min (max x 0) 1048576 = drawF x := rfl
theorem drawF_in (x : Int) : 0 ≤ drawF x ∧ drawF x ≤ 1048576 := by unfold drawF; omega
theorem electR_timer {n : Node} (h : electR n = true) {d : Int} (hd : 0 ≤ d ∧ d ≤ 1048576) : electR (stand1 n d) = true := by
  obtain ⟨h1, h2, h3⟩ := electR_parts h
  have e1 : head19 (stand1 n d) = false := by
    have ht : inB (stand1 n d).timer 0 1048576 = true := by simp [inB, stand1, hd]
    simp only [head19, Bool.or_eq_false_iff] at h1 ⊢
    exact ⟨h1.1, by rw [ht]; rfl⟩
  have e2 : head19b (stand1 n d) = false := h2
  have e3 : allTo (okPe (stand1 n d)) (stand1 n d).peers.length = true := h3
  rw [electR, e1, e2, e3]; rfl
def badS (n : Node) : Bool := decide (1073741824 ≤ n.hard.term) || !((votersOf n.hard).1.contains n.id)
def standF (n : Node) (x : Int) : Node × List Msg × Bool :=
  if electR n = false then (n, [], false)
  else if badS n = true then (stand1 n (drawF x), [], false)
  else (stand3 n (drawF x), askL (stand3 n (drawF x)) (lastF n.hard.log).1 (lastF n.hard.log).2 (votersOf n.hard).1 (votersOf n.hard).1.length, winsF (votersOf n.hard).1 [n.id])
def badR (n : Node) : Bool := decide (n.hard.term = 1073741824) || !(inL (votersOf n.hard).1 n.id)
def standR (n : Node) (x : Int) : Node × List Msg × Bool :=
  if badR n = true then (stand1 n (drawR x), [], false)
  else (stand3 n (drawR x), askL (stand3 n (drawR x)) (lastP n.hard.log) (term15 n.hard.log (lastP n.hard.log)) (votersOf n.hard).1 (votersOf n.hard).1.length, wins16 (votersOf n.hard).1 [n.id])
def standV (r : Node × List Msg × Bool) : V := .tup [.agg (nodeV r.1), .own 0, .d (boo r.2.2)]
attribute [go_sem] standV
theorem f75_B (n : Node) (x : Int) (hE : electR n = true) (hT : n.hard.term < 1073741824) : CallsA Tryz.prog 75 [.agg (nodeV (stand1 n (drawF x))), .d (i64 (n.hard.term + 1))] [] (.agg (nodeV (stand2 n (drawF x)))) [] := by
  have := f75_walk (stand1 n (drawF x)) (n.hard.term + 1)
  rw [laterF, if_pos (by
    rw [electR_timer hE (drawF_in x), show (stand1 n (drawF x)).hard = n.hard from rfl, decide_eq_true (show n.hard.term < n.hard.term + 1 by omega), decide_eq_true (show n.hard.term + 1 ≤ 1073741824 by omega)]; rfl)] at this
  exact this
theorem f78_B (n : Node) (x : Int) (hT : n.hard.term < 1073741824) : CallsA Tryz.prog 78 [.agg (nodeV (stand1 n (drawR x))), .d (i64 (n.hard.term + 1))] [] (.agg (nodeV (stand2 n (drawR x)))) [] := by
  have := f78_walk (stand1 n (drawR x)) (n.hard.term + 1)
  rw [laterR, if_neg (by rw [show (stand1 n (drawR x)).hard = n.hard from rfl, decide_eq_false (show ¬ n.hard.term + 1 ≤ n.hard.term by omega), decide_eq_false (show ¬ 1073741824 < n.hard.term + 1 by omega)]; simp)] at this
  exact this
theorem cb76 : callB Tryz.prog 76 = true := by kernel_rfl
theorem f76_walk (n : Node) (at_ lt v : Int) : CallsA Tryz.prog 76 [.d (i64 v), .ptr 0 0, .ptr 1 0, .ptr 2 0] [.var 30 (nodeV n), .var 3 [.d (i64 at_)], .var 3 [.d (i64 lt)]] (.agg (msgV (askM n at_ lt v))) [.var 30 (nodeV n), .var 3 [.d (i64 at_)], .var 3 [.d (i64 lt)]] := by
  refine callsW_of (fn := Tryz.f76) [.cell 5 33] Tryz.func76 rfl rfl (by show 4 ≤ 15; omega) ?_
  refine wpA_reg [0, 1, 2, 3, 5] [] rfl (by simp only [go_sem, Nat.reduceBEq, Nat.reduceAdd, Nat.reduceEqDiff, Nat.reduceLeDiff, Nat.reduceLT, Nat.reduceMul]; with_reducible rfl) (by first | trivial | omega | (simp +contextual [inI64] <;> omega)) ?_
  refine wpA_reg [5] [] rfl (by simp only [go_sem, Nat.reduceBEq, Nat.reduceAdd, Nat.reduceEqDiff, Nat.reduceLeDiff, Nat.reduceLT, Nat.reduceMul]; with_reducible rfl) (by first | trivial | omega | (simp +contextual [inI64] <;> omega)) ?_
  refine wpA_ret ?_
  refine endL (l := [.agg (msgV (askM n at_ lt v))]) [0, 1, 2] (.inr rfl) (by simp only [go_sem, Nat.reduceBEq, Nat.reduceAdd, Nat.reduceEqDiff, Nat.reduceLeDiff, Nat.reduceLT, Nat.reduceMul]; with_reducible rfl) (by simp [firsts]) (by simp) (by simp only [go_sem, Nat.reduceBEq, Nat.reduceAdd, Nat.reduceEqDiff, Nat.reduceLeDiff, Nat.reduceLT, Nat.reduceMul]) (by simp only [go_sem, askM, Nat.reduceBEq, Nat.reduceAdd, Nat.reduceEqDiff, Nat.reduceLeDiff, Nat.reduceLT, Nat.reduceMul] <;> simp [snapL, snap, leL, le, leD, msgV, recs, ints, i64, str, boo, askM]) ?_
  rfl

theorem cb79 : callB Tryz.prog 79 = true := by kernel_rfl
theorem f79_walk (n : Node) (hs : shaped n.hard = true) : CallsA Tryz.prog 79 [.agg (nodeV n)] [] (.tup [.d (i64 (lastP n.hard.log)), .d (i64 (term15 n.hard.log (lastP n.hard.log)))]) [] := by
  refine callsW_of (fn := Tryz.f79) [.tmp 2, .tmp 3] Tryz.func79 rfl rfl (by show 1 ≤ 15; omega) ?_
  refine wpA_reg [1] [] rfl (by simp only [go_sem, Nat.reduceBEq, Nat.reduceAdd, Nat.reduceEqDiff, Nat.reduceLeDiff, Nat.reduceLT, Nat.reduceMul]; with_reducible rfl) (by first | trivial | omega | (simp +contextual [inI64] <;> omega)) ?_
  refine wpA_reg [1, 4] [usePure (f34_walk n.hard.log (logR_small (shaped_log hs))) rfl cb34] rfl (by simp only [go_sem, Nat.reduceBEq, Nat.reduceAdd, Nat.reduceEqDiff, Nat.reduceLeDiff, Nat.reduceLT, Nat.reduceMul]; with_reducible rfl) (by first | trivial | omega | (simp +contextual [inI64] <;> omega)) ?_
  refine wpA_reg [2, 3] [usePure (f42_walk n.hard.log (lastP n.hard.log) (logR_small (shaped_log hs))) rfl cb42] rfl (by simp only [go_sem, Nat.reduceBEq, Nat.reduceAdd, Nat.reduceEqDiff, Nat.reduceLeDiff, Nat.reduceLT, Nat.reduceMul]; with_reducible rfl) (by first | trivial | omega | (simp +contextual [inI64] <;> omega)) ?_
  refine wpA_ret ?_
  refine endD (.inr rfl) (by simp only [go_sem, Nat.reduceBEq, Nat.reduceAdd, Nat.reduceEqDiff, Nat.reduceLeDiff, Nat.reduceLT, Nat.reduceMul]; with_reducible rfl) ?_
  simp only [go_sem, Nat.reduceBEq, Nat.reduceAdd, Nat.reduceEqDiff, Nat.reduceLeDiff, Nat.reduceLT, Nat.reduceMul]

theorem f79_B (n : Node) (x : Int) (hs : shaped (stand3 n (drawR x)).hard = true) : CallsA Tryz.prog 79 [.agg (nodeV (stand3 n (drawR x)))] [] (.tup [.d (i64 (lastP n.hard.log)), .d (i64 (term15 n.hard.log (lastP n.hard.log)))]) [] := f79_walk _ hs
theorem cb51 : callB Tryz.prog 51 = true := by kernel_rfl
theorem f51_walk (n : Node) (x : Int) : CallsA Tryz.prog 51 [.agg (nodeV n), .d (i64 x)] [] (standV (standF n x)) [.row 33 11 ((standF n x).2.1.map encMsg)] := by
  refine callsW_of (fn := Tryz.f51) [.cell 4 30, .tmp 5, .tmp 6] Tryz.func51 rfl rfl (by show 2 ≤ 87; omega) ?_
  refine wpA_reg [1, 2, 4] [] rfl (by simp only [go_sem, Nat.reduceBEq, Nat.reduceAdd, Nat.reduceEqDiff, Nat.reduceLeDiff, Nat.reduceLT, Nat.reduceMul]; with_reducible rfl) (by first | trivial | omega | (simp +contextual [inI64] <;> omega)) ?_
  refine wpA_seq ?_
  refine wpA_reg [1, 2, 4, 17] [usePure (f19_walk n) rfl cb19] rfl (by simp only [go_sem, Nat.reduceBEq, Nat.reduceAdd, Nat.reduceEqDiff, Nat.reduceLeDiff, Nat.reduceLT, Nat.reduceMul]; with_reducible rfl) (by first | trivial | omega | (simp +contextual [inI64] <;> omega)) ?_
  refine wpA_cond rfl (fun hd => ?_) (fun hd => ?_)
  · have h0 := hd
    rw [show standF n x = _ from by rw [standF, if_pos (by simpa using h0)]]
    refine wpA_reg [4, 5, 6] [] rfl (by simp only [go_sem, Nat.reduceBEq, Nat.reduceAdd, Nat.reduceEqDiff, Nat.reduceLeDiff, Nat.reduceLT, Nat.reduceMul]; with_reducible rfl) (by first | trivial | omega | (simp +contextual [inI64] <;> omega)) ?_
    refine WpA.weak ?_ (weak_own (k := 5) (e := 33) (sz := 11) rfl)
    refine wpA_ret (tR ?_)
    refine endB [11] (.inr rfl) (by simp only [go_sem, Nat.reduceBEq, Nat.reduceAdd, Nat.reduceEqDiff, Nat.reduceLeDiff, Nat.reduceLT, Nat.reduceMul]; with_reducible rfl) trivial (by simp) (by simp only [go_sem, Nat.reduceBEq, Nat.reduceAdd, Nat.reduceEqDiff, Nat.reduceLeDiff, Nat.reduceLT, Nat.reduceMul]) ?_
    simp only [go_sem, Nat.reduceBEq, Nat.reduceAdd, Nat.reduceEqDiff, Nat.reduceLeDiff, Nat.reduceLT, Nat.reduceMul]
  · have h0 := hd
    have hE : electR n = true := by simpa using h0
    have nE : ¬ electR n = false := by rw [hE]; simp
    have hs := electR_shaped hE
    have hV := votersOf_few hs
    refine wpA_skip ?_
    refine tN ?_
    refine wpA_reg [2, 4] [] rfl (by simp only [go_sem, drawF_eq, Nat.reduceBEq, Nat.reduceAdd, Nat.reduceEqDiff, Nat.reduceLeDiff, Nat.reduceLT, Nat.reduceMul]; with_reducible rfl) (by first | trivial | omega | (simp +contextual [inI64] <;> omega)) ?_
    refine wpA_reg [2, 4, 7] [usePure (f21_walk n.hard hs) rfl cb21] rfl (by simp only [go_sem, Nat.reduceBEq, Nat.reduceAdd, Nat.reduceEqDiff, Nat.reduceLeDiff, Nat.reduceLT, Nat.reduceMul]; with_reducible rfl) (by first | trivial | omega | (simp +contextual [inI64] <;> omega)) ?_
    refine wpA_seq ?_
    refine wpA_reg [2, 4, 7, 39] [usePure (f24_walk (votersOf n.hard).1 n.id (by omega)) rfl cb24] rfl (by simp only [go_sem, Nat.reduceBEq, Nat.reduceAdd, Nat.reduceEqDiff, Nat.reduceLeDiff, Nat.reduceLT, Nat.reduceMul]; with_reducible rfl) (by first | trivial | omega | (simp +contextual [inI64] <;> omega)) ?_
    refine wpA_cond rfl (fun hd => ?_) (fun hd => ?_)
    · have h1 := hd
      have hB : badS n = true := h1
      rw [show standF n x = _ from by rw [standF, if_neg nE, if_pos hB]]
      refine wpA_reg [4, 5, 6] [] rfl (by simp only [go_sem, Nat.reduceBEq, Nat.reduceAdd, Nat.reduceEqDiff, Nat.reduceLeDiff, Nat.reduceLT, Nat.reduceMul]; with_reducible rfl) (by first | trivial | omega | (simp +contextual [inI64] <;> omega)) ?_
      refine WpA.weak ?_ (weak_own (k := 5) (e := 33) (sz := 11) rfl)
      refine wpA_ret (tR ?_)
      refine endB [35] (.inr rfl) (by simp only [go_sem, Nat.reduceBEq, Nat.reduceAdd, Nat.reduceEqDiff, Nat.reduceLeDiff, Nat.reduceLT, Nat.reduceMul]; with_reducible rfl) trivial (by simp) (by simp only [go_sem, Nat.reduceBEq, Nat.reduceAdd, Nat.reduceEqDiff, Nat.reduceLeDiff, Nat.reduceLT, Nat.reduceMul]) ?_
      simp only [go_sem, stand1, Nat.reduceBEq, Nat.reduceAdd, Nat.reduceEqDiff, Nat.reduceLeDiff, Nat.reduceLT, Nat.reduceMul]
    · have h1 := hd
      have hB : badS n = false := h1
      have nB : ¬ badS n = true := by rw [hB]; simp
      have hT : n.hard.term < 1073741824 := by simp [badS] at hB; omega
      have hT0 := (shaped_parts hs).1
      rw [show standF n x = _ from by rw [standF, if_neg nE, if_neg nB]]
      refine wpA_skip ?_
      refine tN ?_
      refine wpA_reg [2, 4, 7] [usePure (f75_B n x hE hT) rfl cb75] rfl (by simp only [go_sem, stand1_id, stand1_hard, stand1_role, stand1_lead, stand1_timer, stand1_commit, stand1_got, stand1_peers, Nat.reduceBEq, Nat.reduceAdd, Nat.reduceEqDiff, Nat.reduceLeDiff, Nat.reduceLT, Nat.reduceMul]; with_reducible rfl) (by first | trivial | omega | (simp +contextual [inI64] <;> omega)) ?_
      refine wpA_reg [2, 4, 7] [] rfl (by simp only [go_sem, Nat.reduceBEq, Nat.reduceAdd, Nat.reduceEqDiff, Nat.reduceLeDiff, Nat.reduceLT, Nat.reduceMul]; with_reducible rfl) (by first | trivial | omega | (simp +contextual [inI64] <;> omega)) ?_
      refine wpA_reg [2, 4, 7, 9, 10] [usePure (f57_walk n.hard.log) rfl cb57] rfl (by simp only [go_sem, stand2_id, stand2_hard, stand2_role, stand2_lead, stand2_timer, stand2_commit, stand2_got, stand2_peers, Nat.reduceBEq, Nat.reduceAdd, Nat.reduceEqDiff, Nat.reduceLeDiff, Nat.reduceLT, Nat.reduceMul]; with_reducible rfl) (by first | trivial | omega | (simp +contextual [inI64] <;> omega)) ?_
      refine wpA_reg [2, 4, 7, 11] [] rfl (by simp only [go_sem, Nat.reduceBEq, Nat.reduceAdd, Nat.reduceEqDiff, Nat.reduceLeDiff, Nat.reduceLT, Nat.reduceMul]; with_reducible rfl) (by first | trivial | omega | (simp +contextual [inI64] <;> omega)) ?_
      refine wpA_reg [2, 4, 7, 11, 12] [] rfl (by simp only [go_sem, Nat.reduceBEq, Nat.reduceAdd, Nat.reduceEqDiff, Nat.reduceLeDiff, Nat.reduceLT, Nat.reduceMul]; with_reducible rfl) (by first | trivial | omega | (simp +contextual [inI64] <;> omega)) ?_
      refine wpA_seq ?_
      refine wpA_reg [2, 4, 7, 11, 12, 64, 65, 66] [] rfl (by simp only [go_sem, Nat.reduceBEq, Nat.reduceAdd, Nat.reduceEqDiff, Nat.reduceLeDiff, Nat.reduceLT, Nat.reduceMul]; with_reducible rfl) (by first | trivial | omega | (simp +contextual [inI64] <;> omega)) ?_
      refine wpA_block ?_
      refine wpA_loop (fun j : Nat => ⟨[(2, .ptr 0 0), (4, .ptr 1 0), (7, .d (ints ((votersOf n.hard).1))), (11, .fn 76 [.ptr 0 0, .ptr 2 0, .ptr 3 0]), (12, .own 4), (64, .d (ints ((votersOf n.hard).1))), (65, .d (i64 (((votersOf n.hard).1).length))), (66, .d (i64 j))], enum [.var 30 (nodeV (stand3 n (drawF x))), .var 30 [.d (i64 0), .d (i64 0), .d (i64 0), .d (i64 0), .d (i64 0), .d (.lit (.slice none 0 0)), .d (.lit (.string ⟨⟨[]⟩⟩)), .d (.lit (.slice none 0 0)), .d (i64 0), .d (i64 0), .d (i64 0), .d (i64 0), .d (.lit (.slice none 0 0)), .d (.lit (.slice none 0 0))], .var 3 [.d (i64 ((lastF n.hard.log).1))], .var 3 [.d (i64 ((lastF n.hard.log).2))], .row 33 11 (((askL (stand3 n (drawF x)) (lastF n.hard.log).1 (lastF n.hard.log).2 (votersOf n.hard).1 j)).map encMsg)] 0, 5⟩) (fun j => j ≤ ((votersOf n.hard).1).length) (fun j => ((votersOf n.hard).1).length - j) 0 ((weak_own (k := 12) (e := 33) (sz := 11) rfl).trans (weak_of [0, 1, 57, 58, 67] trivial (by simp) (by simp only [go_sem, Int.natCast_zero, askL_zero, List.map_nil, stand2_id, stand2_hard, stand2_role, stand2_lead, stand2_timer, stand2_commit, stand2_got, stand2_peers, stand3_id, stand3_hard, stand3_role, stand3_lead, stand3_timer, stand3_commit, stand3_got, stand3_peers, List.map_cons, encI, Nat.reduceBEq, Nat.reduceAdd, Nat.reduceEqDiff, Nat.reduceLeDiff, Nat.reduceLT, Nat.reduceMul]) (by simp only [go_sem, Int.natCast_zero, askL_zero, List.map_nil, stand2_id, stand2_hard, stand2_role, stand2_lead, stand2_timer, stand2_commit, stand2_got, stand2_peers, stand3_id, stand3_hard, stand3_role, stand3_lead, stand3_timer, stand3_commit, stand3_got, stand3_peers, List.map_cons, encI, Nat.reduceBEq, Nat.reduceAdd, Nat.reduceEqDiff, Nat.reduceLeDiff, Nat.reduceLT, Nat.reduceMul]))) (Nat.zero_le _) (fun j hj => ?_)
      refine wpA_reg [2, 4, 7, 11, 12, 64, 65, 66, 67] [] rfl (by simp only [go_sem, Nat.reduceBEq, Nat.reduceAdd, Nat.reduceEqDiff, Nat.reduceLeDiff, Nat.reduceLT, Nat.reduceMul]; with_reducible rfl) (by first | trivial | omega | (simp +contextual [inI64] <;> omega)) ?_
      refine wpA_seq ?_
      refine wpA_cond rfl (fun hc => ?_) (fun hc => ?_)
      · have hc : j < ((votersOf n.hard).1).length := by simpa using hc
        have hg := ints_getD ((votersOf n.hard).1) hc
        have e : ((j : Int) - 1).toNat = j - 1 := by omega
        have hg2 := ints_getD ((votersOf n.hard).1) (j := j - 1) (by omega)
        have hal := askL_len (stand3 n (drawF x)) (lastF n.hard.log).1 (lastF n.hard.log).2 (votersOf n.hard).1 j
        have hl := ints_len ((votersOf n.hard).1)
        refine wpA_skip ?_
        refine tN ?_
        refine wpA_seq ?_
        refine wpA_block ?_
        refine wpA_reg [2, 4, 7, 11, 12, 14, 64, 65, 66] [] rfl (by simp only [go_sem, hg, hg2, e, encI, Nat.reduceBEq, Nat.reduceAdd, Nat.reduceEqDiff, Nat.reduceLeDiff, Nat.reduceLT, Nat.reduceMul]; with_reducible rfl) (by first | trivial | omega | (simp +contextual [inI64, hl, hc] <;> omega)) ?_
        refine wpA_reg [2, 4, 7, 11, 12, 14, 64, 65, 66, 73] [] rfl (by simp only [go_sem, hg, hg2, e, encI, Nat.reduceBEq, Nat.reduceAdd, Nat.reduceEqDiff, Nat.reduceLeDiff, Nat.reduceLT, Nat.reduceMul]; with_reducible rfl) (by first | trivial | omega | (simp +contextual [inI64, hl, hc] <;> omega)) ?_
        refine wpA_cond rfl (fun hd => ?_) (fun hd => ?_)
        · have h2 := hd
          refine wpA_region [2, 4, 7, 11, 12, 64, 65, 66] [useAt [0, 2, 3] (f76_walk (stand3 n (drawF x)) (lastF n.hard.log).1 (lastF n.hard.log).2 (iAt (votersOf n.hard).1 j)) (id rfl) (id rfl) cb76] rfl (by simp only [go_sem, hg, hg2, e, encI, Nat.reduceBEq, Nat.reduceAdd, Nat.reduceEqDiff, Nat.reduceLeDiff, Nat.reduceLT, Nat.reduceMul]; with_reducible rfl) (by first | trivial | omega | (simp +contextual [inI64, hl, hc] <;> omega)) ?_
          refine bN (tN ?_)
          refine wpA_region [2, 4, 7, 11, 12, 64, 65, 66] [] rfl (by simp only [go_sem, hg, hg2, e, encI, Nat.reduceBEq, Nat.reduceAdd, Nat.reduceEqDiff, Nat.reduceLeDiff, Nat.reduceLT, Nat.reduceMul]; with_reducible rfl) (by first | trivial | omega | (simp +contextual [inI64, hl, hc] <;> omega)) ?_
          refine tN ?_
          refine ⟨j + 1, hc, by omega, weak_of [0, 1, 2, 3, 18] trivial (by simp) (by simp only [go_sem, Int.natCast_add, Int.natCast_one, askL_yes hd, Nat.reduceBEq, Nat.reduceAdd, Nat.reduceEqDiff, Nat.reduceLeDiff, Nat.reduceLT, Nat.reduceMul]) (by simp only [go_sem, Int.natCast_add, Int.natCast_one, askL_yes hd, Nat.reduceBEq, Nat.reduceAdd, Nat.reduceEqDiff, Nat.reduceLeDiff, Nat.reduceLT, Nat.reduceMul])⟩
        · have h2 := hd
          refine wpA_skip ?_
          refine bN (tN ?_)
          refine wpA_region [2, 4, 7, 11, 12, 64, 65, 66] [] rfl (by simp only [go_sem, hg, hg2, e, encI, Nat.reduceBEq, Nat.reduceAdd, Nat.reduceEqDiff, Nat.reduceLeDiff, Nat.reduceLT, Nat.reduceMul]; with_reducible rfl) (by first | trivial | omega | (simp +contextual [inI64, hl, hc] <;> omega)) ?_
          refine tN ?_
          refine ⟨j + 1, hc, by omega, weak_of [0, 1, 2, 3, 4] trivial (by simp) (by simp only [go_sem, Int.natCast_add, Int.natCast_one, askL_no hd, Nat.reduceBEq, Nat.reduceAdd, Nat.reduceEqDiff, Nat.reduceLeDiff, Nat.reduceLT, Nat.reduceMul]) (by simp only [go_sem, Int.natCast_add, Int.natCast_one, askL_no hd, Nat.reduceBEq, Nat.reduceAdd, Nat.reduceEqDiff, Nat.reduceLeDiff, Nat.reduceLT, Nat.reduceMul])⟩
      · have hc : j = ((votersOf n.hard).1).length := by simp at hc; omega
        subst hc
        refine wpA_exit (tE (tE (bE ?_)))
        refine tN ?_
        refine wpA_regD [[2], [12], [7], [2], [84], [83, 85], [4, 81], [82], [86]] [4, 5, 6] [usePure (f77_walk (votersOf n.hard).1 [n.id] (by omega) (by simp)) rfl cb77] mx rfl (by simp only [go_sem, stand3_id, stand3_hard, stand3_role, stand3_lead, stand3_timer, stand3_commit, stand3_got, stand3_peers, List.map_cons, List.map_nil, encI, Nat.reduceBEq, Nat.reduceAdd, Nat.reduceEqDiff, Nat.reduceLeDiff, Nat.reduceLT, Nat.reduceMul]; with_reducible rfl) (by kernel_rfl) (by first | trivial | omega | (simp +contextual [inI64] <;> omega)) ?_
        refine wpA_ret ?_
        refine endB [4] (.inr rfl) (by simp only [go_sem, Nat.reduceBEq, Nat.reduceAdd, Nat.reduceEqDiff, Nat.reduceLeDiff, Nat.reduceLT, Nat.reduceMul]; with_reducible rfl) trivial (by simp) (by simp only [go_sem, Nat.reduceBEq, Nat.reduceAdd, Nat.reduceEqDiff, Nat.reduceLeDiff, Nat.reduceLT, Nat.reduceMul]) ?_
        simp only [go_sem, stand3_id, stand3_hard, stand3_role, stand3_lead, stand3_timer, stand3_commit, stand3_got, stand3_peers, List.map_cons, List.map_nil, encI, Nat.reduceBEq, Nat.reduceAdd, Nat.reduceEqDiff, Nat.reduceLeDiff, Nat.reduceLT, Nat.reduceMul]

theorem cb52 : callB Tryz.prog 52 = true := by kernel_rfl
theorem f52_walk (n : Node) (x : Int) (hE : electR n = true) : CallsA Tryz.prog 52 [.agg (nodeV n), .d (i64 x)] [] (standV (standR n x)) [.row 33 11 ((standR n x).2.1.map encMsg)] := by
  have hs := electR_shaped hE
  have hV := votersOf_few hs
  refine callsW_of (fn := Tryz.f52) [.cell 4 30, .tmp 5, .tmp 6] Tryz.func52 rfl rfl (by show 2 ≤ 80; omega) ?_
  refine wpA_reg [1, 2, 4] [] rfl (by simp only [go_sem, Nat.reduceBEq, Nat.reduceAdd, Nat.reduceEqDiff, Nat.reduceLeDiff, Nat.reduceLT, Nat.reduceMul]; with_reducible rfl) (by first | trivial | omega | (simp +contextual [inI64] <;> omega)) ?_
  refine wpA_reg [2, 4] [usePure (f49_walk x) rfl cb49] rfl (by simp only [go_sem, Nat.reduceBEq, Nat.reduceAdd, Nat.reduceEqDiff, Nat.reduceLeDiff, Nat.reduceLT, Nat.reduceMul]; with_reducible rfl) (by first | trivial | omega | (simp +contextual [inI64] <;> omega)) ?_
  refine wpA_reg [2, 4, 7] [usePure (f73_walk (stand1 n (drawR x)) hs) rfl cb73] rfl (by simp only [go_sem, stand1_id, stand1_hard, stand1_role, stand1_lead, stand1_timer, stand1_commit, stand1_got, stand1_peers, Nat.reduceBEq, Nat.reduceAdd, Nat.reduceEqDiff, Nat.reduceLeDiff, Nat.reduceLT, Nat.reduceMul]; with_reducible rfl) (by first | trivial | omega | (simp +contextual [inI64] <;> omega)) ?_
  refine wpA_seq ?_
  refine wpA_reg [2, 4, 7, 28] [usePure (f41_walk (votersOf n.hard).1 n.id) rfl cb41] rfl (by simp only [go_sem, Nat.reduceBEq, Nat.reduceAdd, Nat.reduceEqDiff, Nat.reduceLeDiff, Nat.reduceLT, Nat.reduceMul]; with_reducible rfl) (by first | trivial | omega | (simp +contextual [inI64] <;> omega)) ?_
  refine wpA_cond rfl (fun hd => ?_) (fun hd => ?_)
  · have h0 := hd
    have hB : badR n = true := h0
    rw [show standR n x = _ from by rw [standR, if_pos hB]]
    refine wpA_reg [4, 5, 6] [] rfl (by simp only [go_sem, Nat.reduceBEq, Nat.reduceAdd, Nat.reduceEqDiff, Nat.reduceLeDiff, Nat.reduceLT, Nat.reduceMul]; with_reducible rfl) (by first | trivial | omega | (simp +contextual [inI64] <;> omega)) ?_
    refine WpA.weak ?_ (weak_own (k := 5) (e := 33) (sz := 11) rfl)
    refine wpA_ret (tR ?_)
    refine endB [26] (.inr rfl) (by simp only [go_sem, Nat.reduceBEq, Nat.reduceAdd, Nat.reduceEqDiff, Nat.reduceLeDiff, Nat.reduceLT, Nat.reduceMul]; with_reducible rfl) trivial (by simp) (by simp only [go_sem, Nat.reduceBEq, Nat.reduceAdd, Nat.reduceEqDiff, Nat.reduceLeDiff, Nat.reduceLT, Nat.reduceMul]) ?_
    simp only [go_sem, stand1, Nat.reduceBEq, Nat.reduceAdd, Nat.reduceEqDiff, Nat.reduceLeDiff, Nat.reduceLT, Nat.reduceMul]
  · have h0 := hd
    have hB : badR n = false := h0
    have nB : ¬ badR n = true := by rw [hB]; simp
    have hT : n.hard.term < 1073741824 := by have h9 := (shaped_parts hs).1.2; simp [badR] at hB; omega
    have hs3 := stand3_shaped hs hT (drawR x) (electR_id hE)
    have hT0 := (shaped_parts hs).1
    rw [show standR n x = _ from by rw [standR, if_neg nB]]
    refine wpA_skip ?_
    refine tN ?_
    refine wpA_reg [2, 4, 7] [usePure (f78_B n x hT) rfl cb78] rfl (by simp only [go_sem, stand1_id, stand1_hard, stand1_role, stand1_lead, stand1_timer, stand1_commit, stand1_got, stand1_peers, Nat.reduceBEq, Nat.reduceAdd, Nat.reduceEqDiff, Nat.reduceLeDiff, Nat.reduceLT, Nat.reduceMul]; with_reducible rfl) (by first | trivial | omega | (simp +contextual [inI64] <;> omega)) ?_
    refine wpA_reg [2, 4, 7] [] rfl (by simp only [go_sem, Nat.reduceBEq, Nat.reduceAdd, Nat.reduceEqDiff, Nat.reduceLeDiff, Nat.reduceLT, Nat.reduceMul]; with_reducible rfl) (by first | trivial | omega | (simp +contextual [inI64] <;> omega)) ?_
    refine wpA_reg [2, 4, 7] [] rfl (by simp only [go_sem, Nat.reduceBEq, Nat.reduceAdd, Nat.reduceEqDiff, Nat.reduceLeDiff, Nat.reduceLT, Nat.reduceMul]; with_reducible rfl) (by first | trivial | omega | (simp +contextual [inI64] <;> omega)) ?_
    refine wpA_reg [2, 4, 7] [] rfl (by simp only [go_sem, Nat.reduceBEq, Nat.reduceAdd, Nat.reduceEqDiff, Nat.reduceLeDiff, Nat.reduceLT, Nat.reduceMul]; with_reducible rfl) (by first | trivial | omega | (simp +contextual [inI64] <;> omega)) ?_
    refine wpA_reg [2, 4, 7, 8, 9] [usePure (f79_B n x hs3) rfl cb79] rfl (by simp only [go_sem, stand2_id, stand2_hard, stand2_role, stand2_lead, stand2_timer, stand2_commit, stand2_got, stand2_peers, stand3_id, stand3_hard, stand3_role, stand3_lead, stand3_timer, stand3_commit, stand3_got, stand3_peers, List.map_cons, List.map_nil, encI, Nat.reduceBEq, Nat.reduceAdd, Nat.reduceEqDiff, Nat.reduceLeDiff, Nat.reduceLT, Nat.reduceMul]; with_reducible rfl) (by first | trivial | omega | (simp +contextual [inI64] <;> omega)) ?_
    refine wpA_reg [2, 4, 7, 8, 9, 10] [] rfl (by simp only [go_sem, Nat.reduceBEq, Nat.reduceAdd, Nat.reduceEqDiff, Nat.reduceLeDiff, Nat.reduceLT, Nat.reduceMul]; with_reducible rfl) (by first | trivial | omega | (simp +contextual [inI64] <;> omega)) ?_
    refine wpA_seq ?_
    refine wpA_reg [2, 4, 7, 8, 9, 10, 51, 52, 53] [] rfl (by simp only [go_sem, Nat.reduceBEq, Nat.reduceAdd, Nat.reduceEqDiff, Nat.reduceLeDiff, Nat.reduceLT, Nat.reduceMul]; with_reducible rfl) (by first | trivial | omega | (simp +contextual [inI64] <;> omega)) ?_
    refine wpA_block ?_
    refine wpA_loop (fun j : Nat => ⟨[(2, .ptr 0 0), (4, .ptr 1 0), (7, .d (ints ((votersOf n.hard).1))), (8, .d (i64 (lastP n.hard.log))), (9, .d (i64 (term15 n.hard.log (lastP n.hard.log)))), (10, .own 2), (51, .d (ints ((votersOf n.hard).1))), (52, .d (i64 (((votersOf n.hard).1).length))), (53, .d (i64 j))], enum [.var 30 (nodeV (stand3 n (drawR x))), .var 30 [.d (i64 0), .d (i64 0), .d (i64 0), .d (i64 0), .d (i64 0), .d (.lit (.slice none 0 0)), .d (.lit (.string ⟨⟨[]⟩⟩)), .d (.lit (.slice none 0 0)), .d (i64 0), .d (i64 0), .d (i64 0), .d (i64 0), .d (.lit (.slice none 0 0)), .d (.lit (.slice none 0 0))], .row 33 11 (((askL (stand3 n (drawR x)) (lastP n.hard.log) (term15 n.hard.log (lastP n.hard.log)) (votersOf n.hard).1 j)).map encMsg)] 0, 3⟩) (fun j => j ≤ ((votersOf n.hard).1).length) (fun j => ((votersOf n.hard).1).length - j) 0 (weak_of [0, 1, 48] trivial (by simp) (by simp only [go_sem, Int.natCast_zero, askL_zero, List.map_nil, stand2_id, stand2_hard, stand2_role, stand2_lead, stand2_timer, stand2_commit, stand2_got, stand2_peers, stand3_id, stand3_hard, stand3_role, stand3_lead, stand3_timer, stand3_commit, stand3_got, stand3_peers, List.map_cons, encI, Nat.reduceBEq, Nat.reduceAdd, Nat.reduceEqDiff, Nat.reduceLeDiff, Nat.reduceLT, Nat.reduceMul]) (by simp only [go_sem, Int.natCast_zero, askL_zero, List.map_nil, stand2_id, stand2_hard, stand2_role, stand2_lead, stand2_timer, stand2_commit, stand2_got, stand2_peers, stand3_id, stand3_hard, stand3_role, stand3_lead, stand3_timer, stand3_commit, stand3_got, stand3_peers, List.map_cons, encI, Nat.reduceBEq, Nat.reduceAdd, Nat.reduceEqDiff, Nat.reduceLeDiff, Nat.reduceLT, Nat.reduceMul])) (Nat.zero_le _) (fun j hj => ?_)
    refine wpA_reg [2, 4, 7, 8, 9, 10, 51, 52, 53, 54] [] rfl (by simp only [go_sem, Nat.reduceBEq, Nat.reduceAdd, Nat.reduceEqDiff, Nat.reduceLeDiff, Nat.reduceLT, Nat.reduceMul]; with_reducible rfl) (by first | trivial | omega | (simp +contextual [inI64] <;> omega)) ?_
    refine wpA_seq ?_
    refine wpA_cond rfl (fun hc => ?_) (fun hc => ?_)
    · have hc : j < ((votersOf n.hard).1).length := by simpa using hc
      have hg := ints_getD ((votersOf n.hard).1) hc
      have e : ((j : Int) - 1).toNat = j - 1 := by omega
      have hg2 := ints_getD ((votersOf n.hard).1) (j := j - 1) (by omega)
      have hal := askL_len (stand3 n (drawR x)) (lastP n.hard.log) (term15 n.hard.log (lastP n.hard.log)) (votersOf n.hard).1 j
      have hl := ints_len ((votersOf n.hard).1)
      refine wpA_skip ?_
      refine tN ?_
      refine wpA_seq ?_
      refine wpA_block ?_
      refine wpA_reg [2, 4, 7, 8, 9, 10, 12, 51, 52, 53] [] rfl (by simp only [go_sem, hg, hg2, e, encI, Nat.reduceBEq, Nat.reduceAdd, Nat.reduceEqDiff, Nat.reduceLeDiff, Nat.reduceLT, Nat.reduceMul]; with_reducible rfl) (by first | trivial | omega | (simp +contextual [inI64, hl, hc] <;> omega)) ?_
      refine wpA_reg [2, 4, 7, 8, 9, 10, 12, 51, 52, 53, 60] [] rfl (by simp only [go_sem, hg, hg2, e, encI, Nat.reduceBEq, Nat.reduceAdd, Nat.reduceEqDiff, Nat.reduceLeDiff, Nat.reduceLT, Nat.reduceMul]; with_reducible rfl) (by first | trivial | omega | (simp +contextual [inI64, hl, hc] <;> omega)) ?_
      refine wpA_cond rfl (fun hd => ?_) (fun hd => ?_)
      · have h1 := hd
        refine wpA_region [2, 4, 7, 8, 9, 10, 51, 52, 53] [] rfl (by simp only [go_sem, hg, hg2, e, encI, Nat.reduceBEq, Nat.reduceAdd, Nat.reduceEqDiff, Nat.reduceLeDiff, Nat.reduceLT, Nat.reduceMul]; with_reducible rfl) (by first | trivial | omega | (simp +contextual [inI64, hl, hc] <;> omega)) ?_
        refine bN (tN ?_)
        refine wpA_region [2, 4, 7, 8, 9, 10, 51, 52, 53] [] rfl (by simp only [go_sem, hg, hg2, e, encI, Nat.reduceBEq, Nat.reduceAdd, Nat.reduceEqDiff, Nat.reduceLeDiff, Nat.reduceLT, Nat.reduceMul]; with_reducible rfl) (by first | trivial | omega | (simp +contextual [inI64, hl, hc] <;> omega)) ?_
        refine tN ?_
        refine ⟨j + 1, hc, by omega, weak_of [0, 1, 22] trivial (by simp) (by simp only [go_sem, Int.natCast_add, Int.natCast_one, askL_yes hd, askM, List.map_nil, Nat.reduceBEq, Nat.reduceAdd, Nat.reduceEqDiff, Nat.reduceLeDiff, Nat.reduceLT, Nat.reduceMul]) (by simp only [go_sem, Int.natCast_add, Int.natCast_one, askL_yes hd, askM, List.map_nil, Nat.reduceBEq, Nat.reduceAdd, Nat.reduceEqDiff, Nat.reduceLeDiff, Nat.reduceLT, Nat.reduceMul])⟩
      · have h1 := hd
        refine wpA_skip ?_
        refine bN (tN ?_)
        refine wpA_region [2, 4, 7, 8, 9, 10, 51, 52, 53] [] rfl (by simp only [go_sem, hg, hg2, e, encI, Nat.reduceBEq, Nat.reduceAdd, Nat.reduceEqDiff, Nat.reduceLeDiff, Nat.reduceLT, Nat.reduceMul]; with_reducible rfl) (by first | trivial | omega | (simp +contextual [inI64, hl, hc] <;> omega)) ?_
        refine tN ?_
        refine ⟨j + 1, hc, by omega, weak_of [0, 1, 2] trivial (by simp) (by simp only [go_sem, Int.natCast_add, Int.natCast_one, askL_no hd, Nat.reduceBEq, Nat.reduceAdd, Nat.reduceEqDiff, Nat.reduceLeDiff, Nat.reduceLT, Nat.reduceMul]) (by simp only [go_sem, Int.natCast_add, Int.natCast_one, askL_no hd, Nat.reduceBEq, Nat.reduceAdd, Nat.reduceEqDiff, Nat.reduceLeDiff, Nat.reduceLT, Nat.reduceMul])⟩
    · have hc : j = ((votersOf n.hard).1).length := by simp at hc; omega
      subst hc
      refine wpA_exit (tE (tE (bE ?_)))
      refine tN ?_
      refine wpA_regD [[2], [10], [7], [2], [77], [76, 78], [4, 74], [75], [79]] [4, 5, 6] [usePure (f80_walk (votersOf n.hard).1 [n.id] (by omega)) rfl cb80] mx rfl (by simp only [go_sem, stand3_id, stand3_hard, stand3_role, stand3_lead, stand3_timer, stand3_commit, stand3_got, stand3_peers, List.map_cons, List.map_nil, encI, Nat.reduceBEq, Nat.reduceAdd, Nat.reduceEqDiff, Nat.reduceLeDiff, Nat.reduceLT, Nat.reduceMul]; with_reducible rfl) (by kernel_rfl) (by first | trivial | omega | (simp +contextual [inI64] <;> omega)) ?_
      refine wpA_ret ?_
      refine endB [2] (.inr rfl) (by simp only [go_sem, Nat.reduceBEq, Nat.reduceAdd, Nat.reduceEqDiff, Nat.reduceLeDiff, Nat.reduceLT, Nat.reduceMul]; with_reducible rfl) trivial (by simp) (by simp only [go_sem, Nat.reduceBEq, Nat.reduceAdd, Nat.reduceEqDiff, Nat.reduceLeDiff, Nat.reduceLT, Nat.reduceMul]) ?_
      simp only [go_sem, stand3_id, stand3_hard, stand3_role, stand3_lead, stand3_timer, stand3_commit, stand3_got, stand3_peers, List.map_cons, List.map_nil, encI, Nat.reduceBEq, Nat.reduceAdd, Nat.reduceEqDiff, Nat.reduceLeDiff, Nat.reduceLT, Nat.reduceMul]

end Go.Abs
