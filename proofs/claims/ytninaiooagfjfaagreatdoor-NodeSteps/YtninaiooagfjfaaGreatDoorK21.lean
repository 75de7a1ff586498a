/- Walks: the program's answer which values are right. No conditions. -/
import Derived.Test.YtninaiooagfjfaaGreatDoorK20
set_option linter.unusedVariables false
set_option linter.unusedSimpArgs false
set_option maxRecDepth 20000
namespace Go.Abs
open Go Go.RowKit Go.Proofs

/-- The depth that has been met. -/
def topD (v : Val) (d deep : Int) (j : Nat) : Int := max (max d deep) (deep + depTo v j)
theorem topD_zero (v : Val) (d deep : Int) : topD v d deep 0 = max d deep := by
  rw [topD, depTo_zero]; omega
theorem topD_next (v : Val) (d deep : Int) {j : Nat} (h : j < (kids v).length) : topD v d deep (j + 1) = max (topD v d deep j) (deep + 1 + dep (vAt (kids v) j) - 1) := by
  rw [topD, topD, depTo_next v h]; omega
theorem topD_all (v : Val) (d deep : Int) : topD v d deep (kids v).length = max d (deep + dep v - 1) := by
  have := depTo_all v
  have := dep_pos v
  rw [topD]; omega
theorem cb139 : callB Tryz.prog 139 = true := by kernel_rfl
theorem f139_walk (v : Val) (ih : ∀ x ∈ kids v, ∀ m d deep : Int, 0 ≤ m ∧ m + cnt x ≤ 4000 → 0 ≤ deep ∧ deep + dep x ≤ 1000000 → CallsA Tryz.prog 139 [.agg (valL x), .d (i64 deep), .ptr 0 0, .ptr 1 0, .ptr 2 0, .ptr 3 0] [.var 3 [.d (i64 m)], .var 3 [.d (i64 d)], .var 4 [.d (boo true)], .var 166 [.fn 139 [.ptr 0 0, .ptr 1 0, .ptr 2 0, .ptr 3 0]]] (.tup []) [.var 3 [.d (i64 (m + cnt x))], .var 3 [.d (i64 (max d (deep + dep x - 1)))], .var 4 [.d (boo true)], .var 166 [.fn 139 [.ptr 0 0, .ptr 1 0, .ptr 2 0, .ptr 3 0]]]) (m d deep : Int) (hm : 0 ≤ m ∧ m + cnt v ≤ 4000) (hdp : 0 ≤ deep ∧ deep + dep v ≤ 1000000) : CallsA Tryz.prog 139 [.agg (valL v), .d (i64 deep), .ptr 0 0, .ptr 1 0, .ptr 2 0, .ptr 3 0] [.var 3 [.d (i64 m)], .var 3 [.d (i64 d)], .var 4 [.d (boo true)], .var 166 [.fn 139 [.ptr 0 0, .ptr 1 0, .ptr 2 0, .ptr 3 0]]] (.tup []) [.var 3 [.d (i64 (m + cnt v))], .var 3 [.d (i64 (max d (deep + dep v - 1)))], .var 4 [.d (boo true)], .var 166 [.fn 139 [.ptr 0 0, .ptr 1 0, .ptr 2 0, .ptr 3 0]]] := by
  refine callsA_lenA (k := 0) (i := 3) rfl rfl fun hlen => ?_
  rw [encVals_len] at hlen
  refine callsW_of (fn := Tryz.f139) [] Tryz.func139 rfl rfl (by show 6 ≤ 73; omega) ?_
  refine wpA_reg [1, 2, 3, 4, 5, 6] [] rfl (by simp only [go_sem, Nat.reduceBEq, Nat.reduceAdd, Nat.reduceEqDiff, Nat.reduceLeDiff, Nat.reduceLT, Nat.reduceMul]; with_reducible rfl) (by first | trivial | omega | (simp +contextual [inI64] <;> omega)) ?_
  refine wpA_reg [1, 2, 3, 4, 5, 6] [] rfl (by simp only [go_sem, Nat.reduceBEq, Nat.reduceAdd, Nat.reduceEqDiff, Nat.reduceLeDiff, Nat.reduceLT, Nat.reduceMul]; with_reducible rfl) (by first | trivial | omega | (simp +contextual [inI64] <;> omega)) ?_
  refine wpA_seq ?_
  refine wpA_reg [1, 2, 4, 5, 6] [] rfl (by simp only [go_sem, Nat.reduceBEq, Nat.reduceAdd, Nat.reduceEqDiff, Nat.reduceLeDiff, Nat.reduceLT, Nat.reduceMul]; with_reducible rfl) (by first | trivial | omega | (simp +contextual [inI64] <;> omega)) ?_
  refine wpA_reg [1, 4, 5, 6, 16] [] rfl (by simp only [go_sem, Nat.reduceBEq, Nat.reduceAdd, Nat.reduceEqDiff, Nat.reduceLeDiff, Nat.reduceLT, Nat.reduceMul]; with_reducible rfl) (by first | trivial | omega | (simp +contextual [inI64] <;> omega)) ?_
  refine wpA_cond rfl (fun hd => ?_) (fun hd => ?_)
  · exfalso
    have hd := of_decide_eq_true hd
    have := cnt_pos v
    omega
  · have h0 := hd
    refine wpA_skip ?_
    refine tN ?_
    refine wpA_join (fun _ : Unit => ⟨[(1, .d (i64 deep)), (5, .ptr 3 0), (6, .ptr 4 0)], enum [.var 3 [.d (i64 (m + 1))], .var 3 [.d (i64 (max d deep))], .var 4 [.d (boo true)], .var 166 [.fn 139 [.ptr 0 0, .ptr 1 0, .ptr 2 0, .ptr 3 0]], .var 121 (valL v)] 0, 5⟩) (fun _ => True) ?_ (fun _ _ => ?_)
    · refine wpA_reg [1, 4, 5, 6, 18] [] rfl (by simp only [go_sem, Nat.reduceBEq, Nat.reduceAdd, Nat.reduceEqDiff, Nat.reduceLeDiff, Nat.reduceLT, Nat.reduceMul]; with_reducible rfl) (by first | trivial | omega | (simp +contextual [inI64] <;> omega)) ?_
      refine wpA_block ?_
      refine wpA_reg [1, 4, 5, 6, 18, 19] [] rfl (by simp only [go_sem, Nat.reduceBEq, Nat.reduceAdd, Nat.reduceEqDiff, Nat.reduceLeDiff, Nat.reduceLT, Nat.reduceMul]; with_reducible rfl) (by first | trivial | omega | (simp +contextual [inI64] <;> omega)) ?_
      refine wpA_cond rfl (fun hd => ?_) (fun hd => ?_)
      · have h1 := hd
        have hk : (decide (sOf v = { data := #[] }) && decide (((kids v).length : Int) = 0)) = true := by obtain ⟨e1, e2⟩ := k1 v (of_decide_eq_true hd); simp [e1, e2]
        refine wpA_region [1, 5, 6] [] rfl (by simp only [go_sem, Nat.reduceBEq, Nat.reduceAdd, Nat.reduceEqDiff, Nat.reduceLeDiff, Nat.reduceLT, Nat.reduceMul]; with_reducible rfl) (by first | trivial | omega | (simp +contextual [inI64] <;> omega)) ?_
        refine bN (tN ?_)
        refine ⟨(), trivial, weak_of [0, 1, 2, 3, 4] (by simp [firsts]) (by simp) (by simp only [go_sem, hk, Nat.reduceBEq, Nat.reduceAdd, Nat.reduceEqDiff, Nat.reduceLeDiff, Nat.reduceLT, Nat.reduceMul]) (by simp only [go_sem, hk, Nat.reduceBEq, Nat.reduceAdd, Nat.reduceEqDiff, Nat.reduceLeDiff, Nat.reduceLT, Nat.reduceMul])⟩
      · have h1 := hd
        refine wpA_reg [1, 4, 5, 6, 18, 33] [] rfl (by simp only [go_sem, Nat.reduceBEq, Nat.reduceAdd, Nat.reduceEqDiff, Nat.reduceLeDiff, Nat.reduceLT, Nat.reduceMul]; with_reducible rfl) (by first | trivial | omega | (simp +contextual [inI64] <;> omega)) ?_
        refine wpA_cond rfl (fun hd => ?_) (fun hd => ?_)
        · have h2 := hd
          have hk : (decide (nOf v = 0) && decide (((kids v).length : Int) = 0)) = true := by obtain ⟨e1, e2⟩ := k2 v (of_decide_eq_true hd); simp [e1, e2]
          refine wpA_region [1, 5, 6] [] rfl (by simp only [go_sem, Nat.reduceBEq, Nat.reduceAdd, Nat.reduceEqDiff, Nat.reduceLeDiff, Nat.reduceLT, Nat.reduceMul]; with_reducible rfl) (by first | trivial | omega | (simp +contextual [inI64] <;> omega)) ?_
          refine bN (tN ?_)
          refine ⟨(), trivial, weak_of [0, 1, 2, 3, 4] (by simp [firsts]) (by simp) (by simp only [go_sem, hk, Nat.reduceBEq, Nat.reduceAdd, Nat.reduceEqDiff, Nat.reduceLeDiff, Nat.reduceLT, Nat.reduceMul]) (by simp only [go_sem, hk, Nat.reduceBEq, Nat.reduceAdd, Nat.reduceEqDiff, Nat.reduceLeDiff, Nat.reduceLT, Nat.reduceMul])⟩
        · have h2 := hd
          refine wpA_reg [1, 4, 5, 6, 47] [] rfl (by simp only [go_sem, Nat.reduceBEq, Nat.reduceAdd, Nat.reduceEqDiff, Nat.reduceLeDiff, Nat.reduceLT, Nat.reduceMul]; with_reducible rfl) (by first | trivial | omega | (simp +contextual [inI64] <;> omega)) ?_
          refine wpA_cond rfl (fun hd => ?_) (fun hd => ?_)
          · have h3 := hd
            have hk : (decide (nOf v = 0) && decide (sOf v = { data := #[] })) = true := by obtain ⟨e1, e2⟩ := k3 v (of_decide_eq_true hd); simp [e1, e2]
            refine wpA_region [1, 5, 6] [] rfl (by simp only [go_sem, Nat.reduceBEq, Nat.reduceAdd, Nat.reduceEqDiff, Nat.reduceLeDiff, Nat.reduceLT, Nat.reduceMul]; with_reducible rfl) (by first | trivial | omega | (simp +contextual [inI64] <;> omega)) ?_
            refine bN (tN ?_)
            refine ⟨(), trivial, weak_of [0, 1, 2, 3, 4] (by simp [firsts]) (by simp) (by simp only [go_sem, hk, Nat.reduceBEq, Nat.reduceAdd, Nat.reduceEqDiff, Nat.reduceLeDiff, Nat.reduceLT, Nat.reduceMul]) (by simp only [go_sem, hk, Nat.reduceBEq, Nat.reduceAdd, Nat.reduceEqDiff, Nat.reduceLeDiff, Nat.reduceLT, Nat.reduceMul])⟩
          · have h3 := hd
            exfalso
            have := kOf_cases v
            simp at h1 h2 h3
            omega
    refine wpA_reg [1, 5, 61, 62, 63] [] rfl (by simp only [go_sem, Nat.reduceBEq, Nat.reduceAdd, Nat.reduceEqDiff, Nat.reduceLeDiff, Nat.reduceLT, Nat.reduceMul]; with_reducible rfl) (by first | trivial | omega | (simp +contextual [inI64] <;> omega)) ?_
    refine wpA_block ?_
    refine wpA_loop (fun j : Nat => ⟨[(1, .d (i64 deep)), (5, .ptr 3 0), (61, .d (vals (kids v))), (62, .d (i64 ((kids v).length))), (63, .d (i64 j))], enum [.var 3 [.d (i64 (m + 1 + cntTo v j))], .var 3 [.d (i64 (topD v d deep j))], .var 4 [.d (boo true)], .var 166 [.fn 139 [.ptr 0 0, .ptr 1 0, .ptr 2 0, .ptr 3 0]]] 0, 4⟩) (fun j => j ≤ (kids v).length) (fun j => (kids v).length - j) 0 (weak_of [0, 1, 2, 3] (by simp [firsts]) (by simp) (by simp only [go_sem, Int.natCast_zero, cntTo_zero, topD_zero, Int.add_zero, Nat.reduceBEq, Nat.reduceAdd, Nat.reduceEqDiff, Nat.reduceLeDiff, Nat.reduceLT, Nat.reduceMul]) (by simp only [go_sem, Int.natCast_zero, cntTo_zero, topD_zero, Int.add_zero, Nat.reduceBEq, Nat.reduceAdd, Nat.reduceEqDiff, Nat.reduceLeDiff, Nat.reduceLT, Nat.reduceMul])) (Nat.zero_le _) (fun j hj => ?_)
    refine wpA_reg [1, 5, 61, 62, 63, 64] [] rfl (by simp only [go_sem, Nat.reduceBEq, Nat.reduceAdd, Nat.reduceEqDiff, Nat.reduceLeDiff, Nat.reduceLT, Nat.reduceMul]; with_reducible rfl) (by first | trivial | omega | (simp +contextual [inI64] <;> omega)) ?_
    refine wpA_seq ?_
    refine wpA_cond rfl (fun hc => ?_) (fun hc => ?_)
    · have hc : j < (kids v).length := by simpa using hc
      have hg := vals_getD (kids v) hc
      have e : ((j : Int) - 1).toNat = j - 1 := by omega
      have hg2 := vals_getD (kids v) (j := j - 1) (by omega)
      have hl := vals_len (kids v)
      have hb := cntTo_le v hc
      have hb2 := depTo_le v hc
      refine wpA_skip ?_
      refine tN ?_
      refine wpA_seq ?_
      refine wpA_block ?_
      refine wpA_reg [1, 5, 9, 61, 62, 63] [] rfl (by simp only [go_sem, hg, hg2, e, enc4, Nat.reduceBEq, Nat.reduceAdd, Nat.reduceEqDiff, Nat.reduceLeDiff, Nat.reduceLT, Nat.reduceMul]; with_reducible rfl) (by first | trivial | omega | (simp +contextual [inI64, hl, hc] <;> omega)) ?_
      refine wpA_region [1, 5, 61, 62, 63] [useAt [0, 1, 2, 3] (ih (vAt (kids v) j) (vAt_mem hc) (m + 1 + cntTo v j) (topD v d deep j) (deep + 1) (by omega) (by omega)) rfl rfl cb139] rfl (by simp only [go_sem, hg, hg2, e, enc4, Nat.reduceBEq, Nat.reduceAdd, Nat.reduceEqDiff, Nat.reduceLeDiff, Nat.reduceLT, Nat.reduceMul]; with_reducible rfl) (by first | trivial | omega | (simp +contextual [inI64, hl, hc] <;> omega)) ?_
      refine bN (tN ?_)
      refine wpA_region [1, 5, 61, 62, 63] [] rfl (by simp only [go_sem, hg, hg2, e, enc4, Nat.reduceBEq, Nat.reduceAdd, Nat.reduceEqDiff, Nat.reduceLeDiff, Nat.reduceLT, Nat.reduceMul]; with_reducible rfl) (by first | trivial | omega | (simp +contextual [inI64, hl, hc] <;> omega)) ?_
      refine tN ?_
      refine ⟨j + 1, hc, by omega, weak_of [0, 1, 2, 3] (by simp [firsts]) (by simp) (by simp only [go_sem, Int.natCast_add, Int.natCast_one, cntTo_next v hc, topD_next v d deep hc, Int.add_assoc, Nat.reduceBEq, Nat.reduceAdd, Nat.reduceEqDiff, Nat.reduceLeDiff, Nat.reduceLT, Nat.reduceMul]) (by simp only [go_sem, Int.natCast_add, Int.natCast_one, cntTo_next v hc, topD_next v d deep hc, Int.add_assoc, Nat.reduceBEq, Nat.reduceAdd, Nat.reduceEqDiff, Nat.reduceLeDiff, Nat.reduceLT, Nat.reduceMul])⟩
    · have hc : j = (kids v).length := by simp at hc; omega
      subst hc
      have hA : m + 1 + cntTo v (kids v).length = m + cnt v := by have := cntTo_all v; omega
      have hB := topD_all v d deep
      refine wpA_exit (tE (tE (bE ?_)))
      refine endB [0, 1, 2, 3] (.inl rfl) (by simp only [go_sem, Nat.reduceBEq, Nat.reduceAdd, Nat.reduceEqDiff, Nat.reduceLeDiff, Nat.reduceLT, Nat.reduceMul]; with_reducible rfl) (by simp [firsts]) (by simp) (by simp only [go_sem, hA, hB, Nat.reduceBEq, Nat.reduceAdd, Nat.reduceEqDiff, Nat.reduceLeDiff, Nat.reduceLT, Nat.reduceMul]) ?_
      simp only [go_sem, Nat.reduceBEq, Nat.reduceAdd, Nat.reduceEqDiff, Nat.reduceLeDiff, Nat.reduceLT, Nat.reduceMul]

theorem f139_all : ∀ (v : Val) (m d deep : Int), 0 ≤ m ∧ m + cnt v ≤ 4000 → 0 ≤ deep ∧ deep + dep v ≤ 1000000 → CallsA Tryz.prog 139 [.agg (valL v), .d (i64 deep), .ptr 0 0, .ptr 1 0, .ptr 2 0, .ptr 3 0] [.var 3 [.d (i64 m)], .var 3 [.d (i64 d)], .var 4 [.d (boo true)], .var 166 [.fn 139 [.ptr 0 0, .ptr 1 0, .ptr 2 0, .ptr 3 0]]] (.tup [])
    [.var 3 [.d (i64 (m + cnt v))], .var 3 [.d (i64 (max d (deep + dep v - 1)))], .var 4 [.d (boo true)], .var 166 [.fn 139 [.ptr 0 0, .ptr 1 0, .ptr 2 0, .ptr 3 0]]] :=
  Val.ind (fun n => f139_walk _ (by simp [kids])) (fun s => f139_walk _ (by simp [kids])) (fun l ih => f139_walk _ (by simpa [kids] using ih))

theorem cb111 : callB Tryz.prog 111 = true := by kernel_rfl
theorem f111_walk (v : Val) (hc : cnt v ≤ 4000) (hdp : dep v ≤ 30) : CallsA Tryz.prog 111 [.agg (valL v)] [] (.d (i64 0)) [] := by
  refine callsW_of (fn := Tryz.f111) [.tmp 2] Tryz.func111 rfl rfl (by show 1 ≤ 20; omega) ?_
  refine wpA_reg [1] [] rfl (by simp only [go_sem, Nat.reduceBEq, Nat.reduceAdd, Nat.reduceEqDiff, Nat.reduceLeDiff, Nat.reduceLT, Nat.reduceMul]; with_reducible rfl) (by first | trivial | omega | (simp +contextual [inI64] <;> omega)) ?_
  refine wpA_reg [1, 3, 4] [] rfl (by simp only [go_sem, Nat.reduceBEq, Nat.reduceAdd, Nat.reduceEqDiff, Nat.reduceLeDiff, Nat.reduceLT, Nat.reduceMul]; with_reducible rfl) (by first | trivial | omega | (simp +contextual [inI64] <;> omega)) ?_
  refine wpA_reg [1, 3, 4, 5] [] rfl (by simp only [go_sem, Nat.reduceBEq, Nat.reduceAdd, Nat.reduceEqDiff, Nat.reduceLeDiff, Nat.reduceLT, Nat.reduceMul]; with_reducible rfl) (by first | trivial | omega | (simp +contextual [inI64] <;> omega)) ?_
  refine wpA_reg [1, 3, 4, 5, 6] [] rfl (by simp only [go_sem, Nat.reduceBEq, Nat.reduceAdd, Nat.reduceEqDiff, Nat.reduceLeDiff, Nat.reduceLT, Nat.reduceMul]; with_reducible rfl) (by first | trivial | omega | (simp +contextual [inI64] <;> omega)) ?_
  refine wpA_reg [1, 3, 4, 5, 6] [] rfl (by simp only [go_sem, Nat.reduceBEq, Nat.reduceAdd, Nat.reduceEqDiff, Nat.reduceLeDiff, Nat.reduceLT, Nat.reduceMul]; with_reducible rfl) (by first | trivial | omega | (simp +contextual [inI64] <;> omega)) ?_
  refine wpA_reg [3, 4, 5] [useAt [2, 3, 6, 8] (f139_all v 0 0 1 (by omega) (by omega)) rfl rfl cb139] rfl (by simp only [go_sem, Nat.reduceBEq, Nat.reduceAdd, Nat.reduceEqDiff, Nat.reduceLeDiff, Nat.reduceLT, Nat.reduceMul]; with_reducible rfl) (by first | trivial | omega | (simp +contextual [inI64] <;> omega)) ?_
  refine wpA_seq ?_
  refine wpA_block ?_
  refine wpA_reg [4, 5, 11] [] rfl (by simp only [go_sem, Nat.reduceBEq, Nat.reduceAdd, Nat.reduceEqDiff, Nat.reduceLeDiff, Nat.reduceLT, Nat.reduceMul]; with_reducible rfl) (by first | trivial | omega | (simp +contextual [inI64] <;> omega)) ?_
  refine wpA_cond rfl (fun hd => ?_) (fun hd => ?_)
  · exfalso
    have hd := of_decide_eq_true hd
    omega
  · have h0 := hd
    refine wpA_reg [5, 14] [] rfl (by simp only [go_sem, Nat.reduceBEq, Nat.reduceAdd, Nat.reduceEqDiff, Nat.reduceLeDiff, Nat.reduceLT, Nat.reduceMul]; with_reducible rfl) (by first | trivial | omega | (simp +contextual [inI64] <;> omega)) ?_
    refine wpA_cond rfl (fun hd => ?_) (fun hd => ?_)
    · exfalso
      have hd := of_decide_eq_true hd
      omega
    · have h1 := hd
      refine wpA_reg [17] [] rfl (by simp only [go_sem, Nat.reduceBEq, Nat.reduceAdd, Nat.reduceEqDiff, Nat.reduceLeDiff, Nat.reduceLT, Nat.reduceMul]; with_reducible rfl) (by first | trivial | omega | (simp +contextual [inI64] <;> omega)) ?_
      refine wpA_cond rfl (fun hd => ?_) (fun hd => ?_)
      · exfalso
        simp at hd
      · have h2 := hd
        refine wpA_skip ?_
        refine bN (tN ?_)
        refine wpA_reg [2] [] rfl (by simp only [go_sem, Nat.reduceBEq, Nat.reduceAdd, Nat.reduceEqDiff, Nat.reduceLeDiff, Nat.reduceLT, Nat.reduceMul]; with_reducible rfl) (by first | trivial | omega | (simp +contextual [inI64] <;> omega)) ?_
        refine wpA_ret ?_
        refine endD (.inr rfl) (by simp only [go_sem, Nat.reduceBEq, Nat.reduceAdd, Nat.reduceEqDiff, Nat.reduceLeDiff, Nat.reduceLT, Nat.reduceMul]; with_reducible rfl) ?_
        simp only [go_sem]

end Go.Abs
