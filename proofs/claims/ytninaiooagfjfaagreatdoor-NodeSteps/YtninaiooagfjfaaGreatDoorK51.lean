/- How a server begins and ticks: both texts say the same. Plain laws. Walks: the statement NodeSteps. No conditions. -/
import Derived.Test.YtninaiooagfjfaaGreatDoorK50
set_option linter.unusedVariables false
set_option linter.unusedSimpArgs false
set_option maxRecDepth 20000
namespace Go.Abs
open Go Go.RowKit Go.Proofs

/-! ### sizes -/
def sumD (l : List Rec) : Nat := (l.map (·.data.size)).sum
theorem bytes_rec' {r : Rec} (h : fitR r) : (encB (recV r)).size ≤ r.data.size + 108 := by
  obtain ⟨h1, h2, h3⟩ := h
  have a := itoaB_le r.term h1.1 h1.2
  have b := itoaB_le r.kind h2.1 h2.2
  have c := itoaB_le r.data.size (by omega) (by omega)
  simp only [recV, listV, numV, textV, encB, encBs, size_append, size_one, size_none]
  omega
theorem bytes_recs' : ∀ {l : List Rec}, (∀ x ∈ l, fitR x) → (encBs (l.map recV)).size ≤ sumD l + 108 * l.length
  | [], _ => by simp [encBs, size_none]
  | x :: r, h => by
    have h1 := bytes_recs' (l := r) fun y hy => h y (List.mem_cons_of_mem _ hy)
    have h2 := bytes_rec' (h x List.mem_cons_self)
    simp only [List.map_cons, encBs, size_append, List.length_cons, sumD, List.sum_cons] at h1 ⊢
    omega
theorem bytes_small {h : Hard} (hs : shaped h = true) (hsum : h.snap.size + sumD h.log.recs ≤ 30000) : (encB (valOf h)).size ≤ 131072 := by
  obtain ⟨a1, a2, a3, a4, a5, a6, a7, _⟩ := shaped_parts hs
  obtain ⟨f1, f2⟩ := shaped_fit hs
  have b1 := itoaB_le h.term (by omega) (by omega)
  have b2 := itoaB_le h.vote (by omega) (by omega)
  have b3 := itoaB_le h.log.base (by omega) (by omega)
  have b4 := itoaB_le h.log.bterm (by omega) (by omega)
  have b5 := itoaB_le h.snap.size (by omega) (by omega)
  have b6 := bytes_nums f1
  have b7 := bytes_recs' f2
  simp only [valOf, recsV, listV, numV, textV, encB, encBs, size_append, size_one, size_none] at b6 b7 ⊢
  omega
theorem walR_small {h : Hard} (hs : shaped h = true) (hsum : h.snap.size + sumD h.log.recs ≤ 30000) : walR h = true := by
  rw [walR, hs, decide_eq_true (bytes_small hs hsum)]; rfl
theorem sumD_snoc (l : List Rec) (r : Rec) : sumD (l ++ [r]) = sumD l + r.data.size := by simp [sumD]
theorem size_real {n : Node} (hs : shaped n.hard = true) (h : allTo (okS n) n.hard.log.recs.length = true) : ∀ j, j ≤ n.hard.log.recs.length → sizeTo n j = ((n.hard.snap.size + sumD (n.hard.log.recs.take j) : Nat) : Int) ∧ sizeTo n j ≤ 131072
  | 0, _ => by
    have := (shaped_parts hs).2.2.2.2.2.2.1
    rw [sizeTo_zero]
    simp [sumD]; omega
  | j + 1, hj => by
    obtain ⟨h1, h2⟩ := size_real hs h j (by omega)
    have hd := shaped_data hs (j := j) (by omega)
    have hk := all_spec h (j := j) (by omega)
    simp [okS] at hk
    have e : sizeTo n (j + 1) = sizeTo n j + (rAt n.hard.log.recs j).data.size := by
      rw [sizeTo_next, wI_in (by omega) (by omega)]
    rw [List.take_succ_eq_append_getElem (by omega), sumD_snoc, ← rAt_get (by omega), e, h1]
    refine ⟨by omega, ?_⟩
    have := hk.1
    rw [e, h1] at this
    omega
theorem small_sum {n : Node} {m : Msg} (hs : shaped n.hard = true) (h : small18 n m = true) : n.hard.snap.size + sumD n.hard.log.recs ≤ 30000 := by
  simp only [small18, Bool.and_eq_true] at h
  have := (size_real hs h.1 _ (Nat.le_refl _)).1
  rw [List.take_length] at this
  have h2 := of_decide_eq_true h.2.1
  omega

/-! ### standing -/
theorem stand3_right {n : Node} (hE : electR n = true) (hT : n.hard.term < 1073741824) (hsum : n.hard.snap.size + sumD n.hard.log.recs ≤ 30000) {d : Int} (hd : 0 ≤ d ∧ d ≤ 1048576) : electR (stand3 n d) = true := by
  have hi := electR_id hE
  have hs := electR_shaped hE
  have hs3 := stand3_shaped hs hT d hi
  have hw : walR (stand3 n d).hard = true := walR_small hs3 hsum
  have hv := electR_voters hE
  have hc := electR_commit hE
  have hT0 := (shaped_parts hs).1
  have e1 : head19 (stand3 n d) = false := by
    rw [head19, hw]
    have hv' : right (stand3 n d).hard.voters = true := hv
    rw [hv']
    simp [inB, stand3_id, stand3_role, stand3_lead, stand3_timer, stand3_hard, hi.1, hi.2, hd.1, hd.2]
    exact decide_eq_false (by omega)
  have e2 : head19b (stand3 n d) = false := by
    have hl : (lastF (stand3 n d).hard.log).1 = lastP n.hard.log := (last_small hs3).2.2
    have hr : rises (stand3 n d).got = true := by
      show rises [n.id] = true
      simp [rises, allTo, okR, inB, iAt, hi]
    rw [head19b, hl, hr]
    simp [inB, stand3_commit, stand3_hard, hc.1, hc.2]
  rw [electR, e1, e2]; rfl
theorem cnt_same (a b : List Int) : cntW a b a.length = sameL a b := by
  unfold cntW sameL
  rw [List.take_length]
  have h1 : a.countP (inL b) = a.countP b.contains := by simp only [show inL b = b.contains from funext fun x => inL_eq b x]
  rw [h1, List.countP_eq_length_filter]
theorem wins_eq (a b : List Int) : winsF a b = wins16 a b := by
  unfold winsF wins16
  rw [cnt_same]
  congr 1
  rw [decide_eq_decide]; omega
theorem last_term {n : Node} (hs : shaped n.hard = true) : (lastF n.hard.log).2 = term15 n.hard.log (lastP n.hard.log) := by
  have hl := shaped_log hs
  have := term_in (x := lastP n.hard.log) hl (by unfold lastP; omega) (Int.le_refl _)
  rw [← this, lastF, termF, if_pos hl, if_pos hl]
theorem stand_law {n : Node} (x : Int) (hE : electR n = true) : standF n x = standR n x := by
  have hs := electR_shaped hE
  have hT := (shaped_parts hs).1
  have hb : badS n = badR n := by
    unfold badS badR
    rw [inL_eq]
    congr 1
    rw [decide_eq_decide]; omega
  rw [standF, standR, if_neg (by rw [hE]; simp), hb, draw_law, (last_small hs).2.2, last_term hs, wins_eq]
theorem standR_right {n : Node} (x : Int) (hE : electR n = true) (hsum : n.hard.snap.size + sumD n.hard.log.recs ≤ 30000) (hw : (standR n x).2.2 = true) : electR (standR n x).1 = true := by
  have hs := electR_shaped hE
  unfold standR at hw ⊢
  split
  · rename_i hb; rw [if_pos hb] at hw; cases hw
  · rename_i hb
    have hT := (shaped_parts hs).1
    have hb : badR n = false := by simpa using hb
    refine stand3_right hE ?_ hsum (by rw [← draw_law]; exact drawF_in x)
    simp [badR] at hb; omega

/-! ### leading -/
theorem pIdx_nil (x : Int) : pIdx [] x = -1 := rfl
theorem newP_eq (l : List Int) (self next : Int) : ∀ j, newP l self next j = rP l self next [] j
  | 0 => rfl
  | j + 1 => by
    rw [newP, rP, newP_eq l self next j, rStep]
    split
    · simp
    · rw [pIdx_nil, if_neg (by omega)]
theorem lead2_eq {n : Node} (hE : electR n = true) : lead2 n = leadR2 n := by
  unfold lead2 leadR2
  rw [newP_eq, (last_small (electR_shaped hE)).2.2, peers_law _ _ (votersOf_right hE) (fun i j hi => absurd hi (Nat.not_lt_zero _))]
theorem leadD_eq {m : Node} (h : shaped m.hard = true) (hp : ∀ p ∈ m.peers, p.next ≤ lastP m.hard.log + 1) : leadD m = leadRD m := done_eq h hp
theorem lead_law {n : Node} (hE : electR n = true) : leadF n = leadR n := by
  have hb : bad35 n = decide (n.role ≠ 1) := by rw [bad35, hE]; rfl
  have h3 : lead3 n = leadR3 n := by unfold lead3 leadR3; rw [lead2_eq hE]
  have hp : ∀ p ∈ (leadR2 n).peers, p.next = lastP n.hard.log + 1 := fun p hp => newP_mem hp
  rw [leadF, leadR, hb, h3, lead2_eq hE]
  by_cases hr : n.role ≠ 1
  · rw [if_pos (decide_eq_true hr), if_pos hr]
  · rw [if_neg (by simpa using hr), if_neg hr]
    split
    · rename_i hw
      refine leadD_eq (walR_shaped hw) fun p hp' => ?_
      have := hp p hp'
      have e : lastP (leadR3 n).hard.log = lastP n.hard.log + 1 := by
        show n.hard.log.base + ((n.hard.log.recs ++ [_]).length : Nat) = n.hard.log.base + n.hard.log.recs.length + 1
        simp; omega
      omega
    · refine leadD_eq (electR_shaped hE : shaped n.hard = true) fun p hp' => ?_
      have := hp p hp'
      show p.next ≤ lastP n.hard.log + 1
      omega

/-! ### the laws -/
theorem begin_law (id : Int) (h : Hard) (x : Int) : beginF id h x = beginR id h x := by
  rw [beginF, beginR, draw_law, elect_law]
theorem tick_law {n : Node} (x : Int) (hE : electR n = true) (hsum : n.hard.snap.size + sumD n.hard.log.recs ≤ 30000) : tickF n x = tickR n x := by
  have hR : refR n = true := by rw [← elect_law]; exact hE
  have hs := electR_shaped hE
  rw [tickF, tickR, if_neg (show ¬ electR n = false by rw [hE]; simp), if_neg (show ¬ refR n = false by rw [hR]; simp)]
  by_cases h1 : 1 < n.timer
  · rw [if_pos h1, if_pos (show 2 ≤ n.timer by omega)]
  · rw [if_neg h1, if_neg (show ¬ 2 ≤ n.timer by omega)]
    by_cases h2 : n.role = 2
    · have : n.peers.map (sendF (stand1 n 2)) = n.peers.map (oneR (stand1 n 2)) := List.map_congr_left fun p hp => send_eq (n := stand1 n 2) hs (electR_next hE p hp)
      rw [if_pos h2, if_pos h2, this]
    · rw [if_neg h2, if_neg h2, stand_law x hE]
      by_cases hw : (standR n x).2.2 = true
      · rw [if_pos hw, if_pos hw, lead_law (standR_right x hE hsum hw)]
      · rw [if_neg hw, if_neg hw]
theorem tick_bad {n : Node} (x : Int) (hE : electR n = false) : tickF n x = tickR n x := by
  rw [tickF, tickR, if_pos hE, if_pos (by rw [← elect_law]; exact hE)]
end Go.Abs

set_option linter.unusedVariables false
set_option linter.unusedSimpArgs false
set_option maxRecDepth 20000
namespace Go.Abs
open Go Go.RowKit Go.Proofs

theorem cb4 : callB Tryz.prog 4 = true := by kernel_rfl
theorem f4_walk (n : Node) (x : Int) (hS0 : n.hard.snap.size ≤ 9223372036854775807) : CallsA Tryz.prog 4 [.agg (nodeV n), .d (i64 x)] [] (.d (boo true)) [] := by
  refine callsW_of (fn := Tryz.f4) [.tmp 4] Tryz.func4 rfl rfl (by show 2 ≤ 77; omega) ?_
  refine wpA_reg [1, 2] [] rfl (by simp only [go_sem, Nat.reduceBEq, Nat.reduceAdd, Nat.reduceEqDiff, Nat.reduceLeDiff, Nat.reduceLT, Nat.reduceMul]; with_reducible rfl) (by first | trivial | omega | (simp +contextual [inI64] <;> omega)) ?_
  refine wpA_seq ?_
  refine wpA_reg [1, 2, 18] [usePure (f12_walk n msg0 hS0 rfl) rfl cb12] rfl (by simp only [go_sem, msg0, List.map_nil, Nat.reduceBEq, Nat.reduceAdd, Nat.reduceEqDiff, Nat.reduceLeDiff, Nat.reduceLT, Nat.reduceMul]; with_reducible rfl) (by first | trivial | omega | (simp +contextual [inI64] <;> omega)) ?_
  refine wpA_cond rfl (fun hd => ?_) (fun hd => ?_)
  · have h0 := hd
    refine wpA_reg [4] [] rfl (by simp only [go_sem, Nat.reduceBEq, Nat.reduceAdd, Nat.reduceEqDiff, Nat.reduceLeDiff, Nat.reduceLT, Nat.reduceMul]; with_reducible rfl) (by first | trivial | omega | (simp +contextual [inI64] <;> omega)) ?_
    refine wpA_ret (tR ?_)
    refine endD (.inr rfl) (by simp only [go_sem, Nat.reduceBEq, Nat.reduceAdd, Nat.reduceEqDiff, Nat.reduceLeDiff, Nat.reduceLT, Nat.reduceMul]; with_reducible rfl) ?_
    simp only [go_sem, Nat.reduceBEq, Nat.reduceAdd, Nat.reduceEqDiff, Nat.reduceLeDiff, Nat.reduceLT, Nat.reduceMul]
  · have h0 := hd
    have h9 : (!(small18 n msg0)) = false := h0
    have hSm : small18 n msg0 = true := by simpa using h9
    have hB := begin_law n.id n.hard x
    have hE3 : electR n = true → (standR n x).2.2 = true → electR (standR n x).1 = true := fun hE hw => standR_right x hE (small_sum (electR_shaped hE) hSm) hw
    have hT : tickF n x = tickR n x := by
      cases hE : electR n with
      | true => exact tick_law x hE (small_sum (electR_shaped hE) hSm)
      | false => exact tick_bad x hE
    refine wpA_skip ?_
    refine tN ?_
    refine wpA_reg [1, 2, 5, 6] [usePure (f13_walk n.id n.hard x) rfl cb13] rfl (by simp only [go_sem, Nat.reduceBEq, Nat.reduceAdd, Nat.reduceEqDiff, Nat.reduceLeDiff, Nat.reduceLT, Nat.reduceMul]; with_reducible rfl) (by first | trivial | omega | (simp +contextual [inI64] <;> omega)) ?_
    refine wpA_reg [1, 2, 5, 6, 7, 8] [usePure (f14_walk n.id n.hard x) rfl cb14] rfl (by simp only [go_sem, Nat.reduceBEq, Nat.reduceAdd, Nat.reduceEqDiff, Nat.reduceLeDiff, Nat.reduceLT, Nat.reduceMul]; with_reducible rfl) (by first | trivial | omega | (simp +contextual [inI64] <;> omega)) ?_
    refine wpA_reg [1, 2, 5, 6, 7, 8, 9, 10, 11] [usePure (f15_walk n x) rfl cb15] rfl (by simp only [go_sem, Nat.reduceBEq, Nat.reduceAdd, Nat.reduceEqDiff, Nat.reduceLeDiff, Nat.reduceLT, Nat.reduceMul]; with_reducible rfl) (by first | trivial | omega | (simp +contextual [inI64] <;> omega)) ?_
    refine wpA_reg [5, 6, 7, 8, 9, 10, 11, 12, 13, 14] [usePure (f16_walk n x hE3) rfl cb16] rfl (by simp only [go_sem, Nat.reduceBEq, Nat.reduceAdd, Nat.reduceEqDiff, Nat.reduceLeDiff, Nat.reduceLT, Nat.reduceMul]; with_reducible rfl) (by first | trivial | omega | (simp +contextual [inI64] <;> omega)) ?_
    refine wpA_reg [4] [usePure f17_walk rfl cb17, usePure (f9_walk (beginF n.id n.hard x).1 (beginR n.id n.hard x).1) rfl cb9, usePure (f9_walk (tickF n x).1 (tickR n x).1) rfl cb9, usePure (f11_walk (tickF n x).2.1 (tickR n x).2.1) rfl cb11] rfl (by simp only [go_sem, Nat.reduceBEq, Nat.reduceAdd, Nat.reduceEqDiff, Nat.reduceLeDiff, Nat.reduceLT, Nat.reduceMul]; with_reducible rfl) (by first | trivial | omega | (simp +contextual [inI64] <;> omega)) ?_
    refine wpA_ret ?_
    refine endD (.inr rfl) (by simp only [go_sem, Nat.reduceBEq, Nat.reduceAdd, Nat.reduceEqDiff, Nat.reduceLeDiff, Nat.reduceLT, Nat.reduceMul]; with_reducible rfl) ?_
    simp only [go_sem, Nat.reduceBEq, Nat.reduceAdd, Nat.reduceEqDiff, Nat.reduceLeDiff, Nat.reduceLT, Nat.reduceMul]
    rw [hB, hT]
    simp [likeN_refl, likeM_refl]

end Go.Abs
