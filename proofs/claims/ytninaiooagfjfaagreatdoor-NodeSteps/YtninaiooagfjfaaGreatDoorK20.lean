/- Walks: the reference's answer which values are right. No conditions. -/
import Derived.Test.YtninaiooagfjfaaGreatDoorK19
set_option linter.unusedVariables false
set_option linter.unusedSimpArgs false
set_option maxRecDepth 20000
namespace Go.Abs
open Go Go.RowKit Go.Proofs

def kids : Val → List Val
  | .list l => l
  | _ => []
def kOf : Val → Int
  | .num _ => 1
  | .text _ => 2
  | .list _ => 3
def nOf : Val → Int
  | .num n => n
  | _ => 0
def sOf : Val → ByteArray
  | .text s => s
  | _ => ⟨⟨[]⟩⟩
def lD : Val → D
  | .list l => .lst (encVals l)
  | _ => .lit (.slice none 0 0)
def enc4 (v : Val) : List D := [.lit (.int .i64 (kOf v)), .lit (.int .i64 (nOf v)), .lit (.string (sOf v)), lD v]
theorem enc4_eq (v : Val) : encVal v = enc4 v := by cases v <;> rfl
def vals (l : List Val) : D := .lst (encVals l)
def vAt (l : List Val) (j : Nat) : Val := l.getD j (.num 0)
theorem vAt_mem {l : List Val} {j : Nat} (h : j < l.length) : vAt l j ∈ l := by
  have : vAt l j = l[j] := by simp [vAt, List.getD, h]
  rw [this]; exact List.getElem_mem h
theorem vals_getD (l : List Val) {j : Nat} (h : j < l.length) : (encVals l).getD j [] = enc4 (vAt l j) := by
  rw [encVals_eq, ← enc4_eq]
  simp [List.getD, h, vAt]
theorem vals_len (l : List Val) : ∀ row ∈ encVals l, row.length = 4 := encVals_rows l
def valL (v : Val) : List V := [.d (.lit (.int .i64 (kOf v))), .d (.lit (.int .i64 (nOf v))), .d (.lit (.string (sOf v))), .d (vals (kids v))]
theorem le_lD (v : Val) : leD (lD v) (.lst (encVals (kids v))) := by cases v <;> simp [lD, kids, encVals, leD]
theorem one_i (k : IntKind) (n : Int) : one (.d (.lit (.int k n))) = true := rfl
theorem one_s (s : ByteArray) : one (.d (.lit (.string s))) = true := rfl
theorem one_lD (v : Val) : one (.d (lD v)) = true := by cases v <;> rfl
attribute [go_sem] vals valL encVals_len one_lD
attribute [simp] le_lD
@[simp] theorem le_lD2 (v : Val) : lD v = .lst (encVals (kids v)) ∨ lD v = .lit (.slice none 0 0) ∧ encVals (kids v) = [] := by cases v <;> simp [lD, kids, encVals]
theorem k1 (v : Val) (h : kOf v = 1) : sOf v = ⟨#[]⟩ ∧ kids v = [] := by cases v <;> simp [kOf] at h ⊢ <;> exact ⟨rfl, rfl⟩
theorem k2 (v : Val) (h : kOf v = 2) : nOf v = 0 ∧ kids v = [] := by cases v <;> simp [kOf] at h ⊢ <;> exact ⟨rfl, rfl⟩
theorem k3 (v : Val) (h : kOf v = 3) : nOf v = 0 ∧ sOf v = ⟨#[]⟩ := by cases v <;> simp [kOf] at h ⊢ <;> exact ⟨rfl, rfl⟩
theorem kOf_cases (v : Val) : kOf v = 1 ∨ kOf v = 2 ∨ kOf v = 3 := by cases v <;> simp [kOf]

mutual
/-- How many values there are. -/
def cnt : Val → Nat
  | .list l => 1 + cnts l
  | _ => 1
def cnts : List Val → Nat
  | [] => 0
  | v :: r => cnt v + cnts r
end
theorem cnts_app (a b : List Val) : cnts (a ++ b) = cnts a + cnts b := by
  induction a with
  | nil => simp [cnts]
  | cons x r ih => simp only [List.cons_append, cnts, ih]; omega
theorem cnt_pos (v : Val) : 1 ≤ cnt v := by cases v <;> simp [cnt]
theorem cnt_eq (v : Val) : cnt v = 1 + cnts (kids v) := by cases v <;> simp [cnt, kids, cnts]
def cntTo (v : Val) (j : Nat) : Int := (cnts ((kids v).take j) : Nat)
theorem cntTo_zero (v : Val) : cntTo v 0 = 0 := by simp [cntTo, cnts]
theorem cntTo_next (v : Val) {j : Nat} (h : j < (kids v).length) : cntTo v (j + 1) = cntTo v j + cnt (vAt (kids v) j) := by
  have e : vAt (kids v) j = (kids v)[j] := by simp [vAt, List.getD, h]
  rw [cntTo, List.take_succ_eq_append_getElem h, cnts_app, e]
  simp [cntTo, cnts]
theorem cntTo_all (v : Val) : 1 + cntTo v (kids v).length = cnt v := by
  rw [cntTo, List.take_length, cnt_eq]; omega
theorem cntTo_le (v : Val) {j : Nat} (h : j < (kids v).length) : 1 + cntTo v j + cnt (vAt (kids v) j) ≤ cnt v ∧ 0 ≤ cntTo v j ∧ 1 ≤ cnt (vAt (kids v) j) := by
  have h1 := cntTo_next v h
  have h2 : cnts (kids v) = cnts ((kids v).take (j + 1)) + cnts ((kids v).drop (j + 1)) := by rw [← cnts_app, List.take_append_drop]
  have h3 := cnt_eq v
  have h4 := cnt_pos (vAt (kids v) j)
  have h5 : cntTo v (j + 1) = (cnts ((kids v).take (j + 1)) : Nat) := rfl
  have h6 : 0 ≤ cntTo v j := by unfold cntTo; omega
  omega
mutual
/-- How deep a value is. -/
def dep : Val → Nat
  | .list l => 1 + deps l
  | _ => 1
def deps : List Val → Nat
  | [] => 0
  | v :: r => max (dep v) (deps r)
end
theorem deps_app (a b : List Val) : deps (a ++ b) = max (deps a) (deps b) := by
  induction a with
  | nil => simp [deps]
  | cons x r ih => simp only [List.cons_append, deps, ih]; omega
theorem dep_pos (v : Val) : 1 ≤ dep v := by cases v <;> simp [dep]
theorem dep_eq (v : Val) : dep v = 1 + deps (kids v) := by cases v <;> simp [dep, kids, deps]
def depTo (v : Val) (j : Nat) : Int := (deps ((kids v).take j) : Nat)
theorem depTo_zero (v : Val) : depTo v 0 = 0 := by simp [depTo, deps]
theorem depTo_next (v : Val) {j : Nat} (h : j < (kids v).length) : depTo v (j + 1) = max (depTo v j) (dep (vAt (kids v) j)) := by
  have e : vAt (kids v) j = (kids v)[j] := by simp [vAt, List.getD, h]
  rw [depTo, List.take_succ_eq_append_getElem h, deps_app, e]
  simp only [depTo, deps]; omega
theorem depTo_all (v : Val) : depTo v (kids v).length + 1 = dep v := by
  rw [depTo, List.take_length, dep_eq]; omega
theorem depTo_le (v : Val) {j : Nat} (h : j < (kids v).length) : depTo v j + 1 ≤ dep v ∧ 0 ≤ depTo v j ∧ (dep (vAt (kids v) j) : Int) + 1 ≤ dep v ∧ 1 ≤ dep (vAt (kids v) j) := by
  have h1 := depTo_next v h
  have h2 : deps (kids v) = max (deps ((kids v).take (j + 1))) (deps ((kids v).drop (j + 1))) := by rw [← deps_app, List.take_append_drop]
  have h3 := dep_eq v
  have h4 := dep_pos (vAt (kids v) j)
  have h5 : depTo v (j + 1) = (deps ((kids v).take (j + 1)) : Nat) := rfl
  have h6 : 0 ≤ depTo v j := by unfold depTo; omega
  omega
theorem cb136 : callB Tryz.prog 136 = true := by kernel_rfl
theorem f136_walk (v : Val) (ih : ∀ x ∈ kids v, ∀ most : Int, (cnt x : Int) ≤ most → most ≤ 1000000 → CallsA Tryz.prog 136 [.agg (valL x), .d (i64 most)] [] (.d (i64 (cnt x))) []) (most : Int) (hm : (cnt v : Int) ≤ most) (hcnt : most ≤ 1000000) : CallsA Tryz.prog 136 [.agg (valL v), .d (i64 most)] [] (.d (i64 (cnt v))) [] := by
  refine callsA_lenA (k := 0) (i := 3) rfl rfl fun hlen => ?_
  rw [encVals_len] at hlen
  refine callsW_of (fn := Tryz.f136) [.tmp 4] Tryz.func136 rfl rfl (by show 2 ≤ 32; omega) ?_
  refine wpA_reg [1, 2] [] rfl (by simp only [go_sem, Nat.reduceBEq, Nat.reduceAdd, Nat.reduceEqDiff, Nat.reduceLeDiff, Nat.reduceLT, Nat.reduceMul]; with_reducible rfl) (by first | trivial | omega | (simp +contextual [inI64] <;> omega)) ?_
  refine wpA_reg [1, 2, 5] [] rfl (by simp only [go_sem, Nat.reduceBEq, Nat.reduceAdd, Nat.reduceEqDiff, Nat.reduceLeDiff, Nat.reduceLT, Nat.reduceMul]; with_reducible rfl) (by first | trivial | omega | (simp +contextual [inI64] <;> omega)) ?_
  refine wpA_seq ?_
  refine wpA_reg [1, 5, 9, 10, 11] [] rfl (by simp only [go_sem, Nat.reduceBEq, Nat.reduceAdd, Nat.reduceEqDiff, Nat.reduceLeDiff, Nat.reduceLT, Nat.reduceMul]; with_reducible rfl) (by first | trivial | omega | (simp +contextual [inI64] <;> omega)) ?_
  refine wpA_block ?_
  refine wpA_loop (fun j : Nat => ⟨[(1, .d (i64 most)), (5, .d (i64 (1 + cntTo v j))), (9, .d (vals (kids v))), (10, .d (i64 ((kids v).length))), (11, .d (i64 j))], [], 0⟩) (fun j => j ≤ (kids v).length) (fun j => (kids v).length - j) 0 (weak_of (bs := []) [] trivial (by simp) trivial (by simp only [go_sem, Int.natCast_zero, cntTo_zero, Int.add_zero, Nat.reduceBEq])) (Nat.zero_le _) (fun j hj => ?_)
  refine wpA_reg [1, 5, 9, 10, 11, 12] [] rfl (by simp only [go_sem, Nat.reduceBEq, Nat.reduceAdd, Nat.reduceEqDiff, Nat.reduceLeDiff, Nat.reduceLT, Nat.reduceMul]; with_reducible rfl) (by first | trivial | omega | (simp +contextual [inI64] <;> omega)) ?_
  refine wpA_seq ?_
  refine wpA_cond rfl (fun hc => ?_) (fun hc => ?_)
  · have hc : j < (kids v).length := by simpa using hc
    have hg := vals_getD (kids v) hc
    have e : ((j : Int) - 1).toNat = j - 1 := by omega
    have hg2 := vals_getD (kids v) (j := j - 1) (by omega)
    have hl := vals_len (kids v)
    have hb := cntTo_le v hc
    refine wpA_skip ?_
    refine tN ?_
    refine wpA_seq ?_
    refine wpA_block ?_
    refine wpA_reg [1, 5, 7, 9, 10, 11] [] rfl (by simp only [go_sem, hg, hg2, e, enc4, Nat.reduceBEq, Nat.reduceAdd, Nat.reduceEqDiff, Nat.reduceLeDiff, Nat.reduceLT, Nat.reduceMul]; with_reducible rfl) (by first | trivial | omega | (simp +contextual [inI64, hl, hc] <;> omega)) ?_
    refine wpA_seq ?_
    refine wpA_reg [1, 5, 7, 9, 10, 11, 17] [] rfl (by simp only [go_sem, hg, hg2, e, enc4, Nat.reduceBEq, Nat.reduceAdd, Nat.reduceEqDiff, Nat.reduceLeDiff, Nat.reduceLT, Nat.reduceMul]; with_reducible rfl) (by first | trivial | omega | (simp +contextual [inI64, hl, hc] <;> omega)) ?_
    refine wpA_cond rfl (fun hd => ?_) (fun hd => ?_)
    · exfalso
      have hd := of_decide_eq_true hd
      have := cntTo_le v hc
      omega
    · have h0 := hd
      refine wpA_skip ?_
      refine tN ?_
      refine wpA_region [1, 5, 9, 10, 11] [usePure (ih (vAt (kids v) j) (vAt_mem hc) (most - (1 + cntTo v j)) (by omega) (by omega)) rfl cb136] rfl (by simp only [go_sem, hg, hg2, e, enc4, Nat.reduceBEq, Nat.reduceAdd, Nat.reduceEqDiff, Nat.reduceLeDiff, Nat.reduceLT, Nat.reduceMul]; with_reducible rfl) (by first | trivial | omega | (simp +contextual [inI64, hl, hc] <;> omega)) ?_
      refine bN (tN ?_)
      refine wpA_region [1, 5, 9, 10, 11] [] rfl (by simp only [go_sem, hg, hg2, e, enc4, Nat.reduceBEq, Nat.reduceAdd, Nat.reduceEqDiff, Nat.reduceLeDiff, Nat.reduceLT, Nat.reduceMul]; with_reducible rfl) (by first | trivial | omega | (simp +contextual [inI64, hl, hc] <;> omega)) ?_
      refine tN ?_
      refine ⟨j + 1, hc, by omega, weak_of (bs := []) [] trivial (by simp) trivial (by simp only [go_sem, Int.natCast_add, Int.natCast_one, cntTo_next v hc, Int.add_assoc, Nat.reduceBEq])⟩
  · have hc : j = (kids v).length := by simp at hc; omega
    subst hc
    refine wpA_exit (tE (tE (bE ?_)))
    refine tN ?_
    refine wpA_seq ?_
    refine wpA_reg [1, 5, 29] [] rfl (by simp only [go_sem, Nat.reduceBEq, Nat.reduceAdd, Nat.reduceEqDiff, Nat.reduceLeDiff, Nat.reduceLT, Nat.reduceMul]; with_reducible rfl) (by first | trivial | omega | (simp +contextual [inI64] <;> omega)) ?_
    refine wpA_cond rfl (fun hd => ?_) (fun hd => ?_)
    · exfalso
      have hd := of_decide_eq_true hd
      have := cntTo_all v
      omega
    · have h0 := hd
      refine wpA_skip ?_
      refine tN ?_
      refine wpA_reg [4] [] rfl (by simp only [go_sem, Nat.reduceBEq, Nat.reduceAdd, Nat.reduceEqDiff, Nat.reduceLeDiff, Nat.reduceLT, Nat.reduceMul]; with_reducible rfl) (by first | trivial | omega | (simp +contextual [inI64] <;> omega)) ?_
      refine wpA_ret ?_
      refine endD (.inr rfl) (by simp only [go_sem, Nat.reduceBEq, Nat.reduceAdd, Nat.reduceEqDiff, Nat.reduceLeDiff, Nat.reduceLT, Nat.reduceMul]; with_reducible rfl) ?_
      simp only [go_sem, Nat.reduceBEq, Nat.reduceAdd, Nat.reduceEqDiff, Nat.reduceLeDiff, Nat.reduceLT, Nat.reduceMul]
      rw [cntTo_all v]

theorem f136_all : ∀ (v : Val) (most : Int), (cnt v : Int) ≤ most → most ≤ 1000000 → CallsA Tryz.prog 136 [.agg (valL v), .d (i64 most)] [] (.d (i64 (cnt v))) [] :=
  Val.ind (fun n => f136_walk _ (by simp [kids])) (fun s => f136_walk _ (by simp [kids])) (fun l ih => f136_walk _ (by simpa [kids] using ih))

theorem cb137 : callB Tryz.prog 137 = true := by kernel_rfl
theorem f137_walk (v : Val) (ih : ∀ x ∈ kids v, ∀ most : Int, (dep x : Int) < most → most ≤ 1000000 → CallsA Tryz.prog 137 [.agg (valL x), .d (i64 most)] [] (.d (i64 (dep x))) []) (most : Int) (hm : (dep v : Int) < most) (hcnt : most ≤ 1000000) : CallsA Tryz.prog 137 [.agg (valL v), .d (i64 most)] [] (.d (i64 (dep v))) [] := by
  refine callsA_lenA (k := 0) (i := 3) rfl rfl fun hlen => ?_
  rw [encVals_len] at hlen
  refine callsW_of (fn := Tryz.f137) [.tmp 4] Tryz.func137 rfl rfl (by show 2 ≤ 35; omega) ?_
  refine wpA_reg [1, 2] [] rfl (by simp only [go_sem, Nat.reduceBEq, Nat.reduceAdd, Nat.reduceEqDiff, Nat.reduceLeDiff, Nat.reduceLT, Nat.reduceMul]; with_reducible rfl) (by first | trivial | omega | (simp +contextual [inI64] <;> omega)) ?_
  refine wpA_seq ?_
  refine wpA_reg [1, 2, 10] [] rfl (by simp only [go_sem, Nat.reduceBEq, Nat.reduceAdd, Nat.reduceEqDiff, Nat.reduceLeDiff, Nat.reduceLT, Nat.reduceMul]; with_reducible rfl) (by first | trivial | omega | (simp +contextual [inI64] <;> omega)) ?_
  refine wpA_cond rfl (fun hd => ?_) (fun hd => ?_)
  · exfalso
    have hd := of_decide_eq_true hd
    have := dep_pos v
    omega
  · have h0 := hd
    refine wpA_skip ?_
    refine tN ?_
    refine wpA_reg [1, 2, 5] [] rfl (by simp only [go_sem, Nat.reduceBEq, Nat.reduceAdd, Nat.reduceEqDiff, Nat.reduceLeDiff, Nat.reduceLT, Nat.reduceMul]; with_reducible rfl) (by first | trivial | omega | (simp +contextual [inI64] <;> omega)) ?_
    refine wpA_seq ?_
    refine wpA_reg [1, 5, 13, 14, 15] [] rfl (by simp only [go_sem, Nat.reduceBEq, Nat.reduceAdd, Nat.reduceEqDiff, Nat.reduceLeDiff, Nat.reduceLT, Nat.reduceMul]; with_reducible rfl) (by first | trivial | omega | (simp +contextual [inI64] <;> omega)) ?_
    refine wpA_block ?_
    refine wpA_loop (fun j : Nat => ⟨[(1, .d (i64 most)), (5, .d (i64 (depTo v j))), (13, .d (vals (kids v))), (14, .d (i64 ((kids v).length))), (15, .d (i64 j))], [], 0⟩) (fun j => j ≤ (kids v).length) (fun j => (kids v).length - j) 0 (weak_of (bs := []) [] trivial (by simp) trivial (by simp only [go_sem, Int.natCast_zero, depTo_zero, Nat.reduceBEq])) (Nat.zero_le _) (fun j hj => ?_)
    refine wpA_reg [1, 5, 13, 14, 15, 16] [] rfl (by simp only [go_sem, Nat.reduceBEq, Nat.reduceAdd, Nat.reduceEqDiff, Nat.reduceLeDiff, Nat.reduceLT, Nat.reduceMul]; with_reducible rfl) (by first | trivial | omega | (simp +contextual [inI64] <;> omega)) ?_
    refine wpA_seq ?_
    refine wpA_cond rfl (fun hc => ?_) (fun hc => ?_)
    · have hc : j < (kids v).length := by simpa using hc
      have hg := vals_getD (kids v) hc
      have e : ((j : Int) - 1).toNat = j - 1 := by omega
      have hg2 := vals_getD (kids v) (j := j - 1) (by omega)
      have hl := vals_len (kids v)
      have hb := depTo_le v hc
      refine wpA_skip ?_
      refine tN ?_
      refine wpA_seq ?_
      refine wpA_block ?_
      refine wpA_reg [1, 5, 7, 13, 14, 15] [] rfl (by simp only [go_sem, hg, hg2, e, enc4, Nat.reduceBEq, Nat.reduceAdd, Nat.reduceEqDiff, Nat.reduceLeDiff, Nat.reduceLT, Nat.reduceMul]; with_reducible rfl) (by first | trivial | omega | (simp +contextual [inI64, hl, hc] <;> omega)) ?_
      refine wpA_reg [1, 5, 8, 13, 14, 15] [usePure (ih (vAt (kids v) j) (vAt_mem hc) (most - 1) (by omega) (by omega)) rfl cb137] rfl (by simp only [go_sem, hg, hg2, e, enc4, Nat.reduceBEq, Nat.reduceAdd, Nat.reduceEqDiff, Nat.reduceLeDiff, Nat.reduceLT, Nat.reduceMul]; with_reducible rfl) (by first | trivial | omega | (simp +contextual [inI64, hl, hc] <;> omega)) ?_
      refine wpA_seq ?_
      refine wpA_reg [1, 5, 8, 13, 14, 15, 25] [] rfl (by simp only [go_sem, hg, hg2, e, enc4, Nat.reduceBEq, Nat.reduceAdd, Nat.reduceEqDiff, Nat.reduceLeDiff, Nat.reduceLT, Nat.reduceMul]; with_reducible rfl) (by first | trivial | omega | (simp +contextual [inI64, hl, hc] <;> omega)) ?_
      refine wpA_cond rfl (fun hd => ?_) (fun hd => ?_)
      · have h1 := hd
        have hn : depTo v (j + 1) = dep (vAt (kids v) j) := by rw [depTo_next v hc]; have := of_decide_eq_true hd; omega
        refine wpA_region [1, 5, 13, 14, 15] [] rfl (by simp only [go_sem, hg, hg2, e, enc4, Nat.reduceBEq, Nat.reduceAdd, Nat.reduceEqDiff, Nat.reduceLeDiff, Nat.reduceLT, Nat.reduceMul]; with_reducible rfl) (by first | trivial | omega | (simp +contextual [inI64, hl, hc] <;> omega)) ?_
        refine tN ?_
        refine wpA_reg [1, 5, 13, 14, 15, 30] [] rfl (by simp only [go_sem, hg, hg2, e, enc4, Nat.reduceBEq, Nat.reduceAdd, Nat.reduceEqDiff, Nat.reduceLeDiff, Nat.reduceLT, Nat.reduceMul]; with_reducible rfl) (by first | trivial | omega | (simp +contextual [inI64, hl, hc] <;> omega)) ?_
        refine wpA_cond rfl (fun hd => ?_) (fun hd => ?_)
        · exfalso
          have hd := of_decide_eq_true hd
          omega
        · have h2 := hd
          refine wpA_skip ?_
          refine bN (tN ?_)
          refine wpA_region [1, 5, 13, 14, 15] [] rfl (by simp only [go_sem, hg, hg2, e, enc4, Nat.reduceBEq, Nat.reduceAdd, Nat.reduceEqDiff, Nat.reduceLeDiff, Nat.reduceLT, Nat.reduceMul]; with_reducible rfl) (by first | trivial | omega | (simp +contextual [inI64, hl, hc] <;> omega)) ?_
          refine tN ?_
          refine ⟨j + 1, hc, by omega, weak_of (bs := []) [] trivial (by simp) trivial (by simp only [go_sem, Int.natCast_add, Int.natCast_one, hn, Nat.reduceBEq])⟩
      · have h1 := hd
        have hn : depTo v (j + 1) = depTo v j := by rw [depTo_next v hc]; have := of_decide_eq_false hd; omega
        refine wpA_skip ?_
        refine tN ?_
        refine wpA_reg [1, 5, 13, 14, 15, 30] [] rfl (by simp only [go_sem, hg, hg2, e, enc4, Nat.reduceBEq, Nat.reduceAdd, Nat.reduceEqDiff, Nat.reduceLeDiff, Nat.reduceLT, Nat.reduceMul]; with_reducible rfl) (by first | trivial | omega | (simp +contextual [inI64, hl, hc] <;> omega)) ?_
        refine wpA_cond rfl (fun hd => ?_) (fun hd => ?_)
        · exfalso
          have hd := of_decide_eq_true hd
          omega
        · have h2 := hd
          refine wpA_skip ?_
          refine bN (tN ?_)
          refine wpA_region [1, 5, 13, 14, 15] [] rfl (by simp only [go_sem, hg, hg2, e, enc4, Nat.reduceBEq, Nat.reduceAdd, Nat.reduceEqDiff, Nat.reduceLeDiff, Nat.reduceLT, Nat.reduceMul]; with_reducible rfl) (by first | trivial | omega | (simp +contextual [inI64, hl, hc] <;> omega)) ?_
          refine tN ?_
          refine ⟨j + 1, hc, by omega, weak_of (bs := []) [] trivial (by simp) trivial (by simp only [go_sem, Int.natCast_add, Int.natCast_one, hn, Nat.reduceBEq])⟩
    · have hc : j = (kids v).length := by simp at hc; omega
      subst hc
      have hda := depTo_all v
      refine wpA_exit (tE (tE (bE ?_)))
      refine tN ?_
      refine wpA_reg [4] [] rfl (by simp only [go_sem, Nat.reduceBEq, Nat.reduceAdd, Nat.reduceEqDiff, Nat.reduceLeDiff, Nat.reduceLT, Nat.reduceMul]; with_reducible rfl) (by first | trivial | omega | (simp +contextual [inI64] <;> omega)) ?_
      refine wpA_ret ?_
      refine endD (.inr rfl) (by simp only [go_sem, Nat.reduceBEq, Nat.reduceAdd, Nat.reduceEqDiff, Nat.reduceLeDiff, Nat.reduceLT, Nat.reduceMul]; with_reducible rfl) ?_
      simp only [go_sem, Nat.reduceBEq, Nat.reduceAdd, Nat.reduceEqDiff, Nat.reduceLeDiff, Nat.reduceLT, Nat.reduceMul]
      rw [hda]

theorem f137_all : ∀ (v : Val) (most : Int), (dep v : Int) < most → most ≤ 1000000 → CallsA Tryz.prog 137 [.agg (valL v), .d (i64 most)] [] (.d (i64 (dep v))) [] :=
  Val.ind (fun n => f137_walk _ (by simp [kids])) (fun s => f137_walk _ (by simp [kids])) (fun l ih => f137_walk _ (by simpa [kids] using ih))

theorem cb138 : callB Tryz.prog 138 = true := by kernel_rfl
theorem f138_walk (v : Val) (ih : ∀ x ∈ kids v, CallsA Tryz.prog 138 [.agg (valL x)] [] (.d (boo true)) []) : CallsA Tryz.prog 138 [.agg (valL v)] [] (.d (boo true)) [] := by
  refine callsA_lenA (k := 0) (i := 3) rfl rfl fun hlen => ?_
  rw [encVals_len] at hlen
  refine callsW_of (fn := Tryz.f138) [.tmp 2] Tryz.func138 rfl rfl (by show 1 ≤ 50; omega) ?_
  refine wpA_reg [1] [] rfl (by simp only [go_sem, Nat.reduceBEq, Nat.reduceAdd, Nat.reduceEqDiff, Nat.reduceLeDiff, Nat.reduceLT, Nat.reduceMul]; with_reducible rfl) (by first | trivial | omega | (simp +contextual [inI64] <;> omega)) ?_
  refine wpA_seq ?_
  refine wpA_reg [1, 6] [] rfl (by simp only [go_sem, Nat.reduceBEq, Nat.reduceAdd, Nat.reduceEqDiff, Nat.reduceLeDiff, Nat.reduceLT, Nat.reduceMul]; with_reducible rfl) (by first | trivial | omega | (simp +contextual [inI64] <;> omega)) ?_
  refine wpA_block ?_
  refine wpA_reg [1, 6, 7] [] rfl (by simp only [go_sem, Nat.reduceBEq, Nat.reduceAdd, Nat.reduceEqDiff, Nat.reduceLeDiff, Nat.reduceLT, Nat.reduceMul]; with_reducible rfl) (by first | trivial | omega | (simp +contextual [inI64] <;> omega)) ?_
  refine wpA_cond rfl (fun hd => ?_) (fun hd => ?_)
  · have h0 := hd
    refine wpA_reg [2] [] rfl (by simp only [go_sem, Nat.reduceBEq, Nat.reduceAdd, Nat.reduceEqDiff, Nat.reduceLeDiff, Nat.reduceLT, Nat.reduceMul]; with_reducible rfl) (by first | trivial | omega | (simp +contextual [inI64] <;> omega)) ?_
    refine wpA_ret (bR (tR ?_))
    refine endD (.inr rfl) (by simp only [go_sem, Nat.reduceBEq, Nat.reduceAdd, Nat.reduceEqDiff, Nat.reduceLeDiff, Nat.reduceLT, Nat.reduceMul]; with_reducible rfl) ?_
    have hd := of_decide_eq_true hd
    obtain ⟨e1, e2⟩ := k1 v hd
    simp only [go_sem, Nat.reduceBEq, Nat.reduceAdd, Nat.reduceEqDiff, Nat.reduceLeDiff, Nat.reduceLT, Nat.reduceMul]
    simp [e1, e2]
  · have h0 := hd
    refine wpA_reg [1, 6, 18] [] rfl (by simp only [go_sem, Nat.reduceBEq, Nat.reduceAdd, Nat.reduceEqDiff, Nat.reduceLeDiff, Nat.reduceLT, Nat.reduceMul]; with_reducible rfl) (by first | trivial | omega | (simp +contextual [inI64] <;> omega)) ?_
    refine wpA_cond rfl (fun hd => ?_) (fun hd => ?_)
    · have h1 := hd
      refine wpA_reg [2] [] rfl (by simp only [go_sem, Nat.reduceBEq, Nat.reduceAdd, Nat.reduceEqDiff, Nat.reduceLeDiff, Nat.reduceLT, Nat.reduceMul]; with_reducible rfl) (by first | trivial | omega | (simp +contextual [inI64] <;> omega)) ?_
      refine wpA_ret (bR (tR ?_))
      refine endD (.inr rfl) (by simp only [go_sem, Nat.reduceBEq, Nat.reduceAdd, Nat.reduceEqDiff, Nat.reduceLeDiff, Nat.reduceLT, Nat.reduceMul]; with_reducible rfl) ?_
      have hd := of_decide_eq_true hd
      obtain ⟨e1, e2⟩ := k2 v hd
      simp only [go_sem, Nat.reduceBEq, Nat.reduceAdd, Nat.reduceEqDiff, Nat.reduceLeDiff, Nat.reduceLT, Nat.reduceMul]
      simp [e1, e2]
    · have h1 := hd
      refine wpA_reg [1, 29] [] rfl (by simp only [go_sem, Nat.reduceBEq, Nat.reduceAdd, Nat.reduceEqDiff, Nat.reduceLeDiff, Nat.reduceLT, Nat.reduceMul]; with_reducible rfl) (by first | trivial | omega | (simp +contextual [inI64] <;> omega)) ?_
      refine wpA_cond rfl (fun hd => ?_) (fun hd => ?_)
      · have h2 := hd
        refine wpA_seq ?_
        refine wpA_reg [1, 32, 33, 34] [] rfl (by simp only [go_sem, Nat.reduceBEq, Nat.reduceAdd, Nat.reduceEqDiff, Nat.reduceLeDiff, Nat.reduceLT, Nat.reduceMul]; with_reducible rfl) (by first | trivial | omega | (simp +contextual [inI64] <;> omega)) ?_
        refine wpA_block ?_
        refine wpA_loop (fun j : Nat => ⟨[(1, .ptr 0 0), (32, .d (vals (kids v))), (33, .d (i64 ((kids v).length))), (34, .d (i64 j))], enum [.var 121 (valL v)] 0, 1⟩) (fun j => j ≤ (kids v).length) (fun j => (kids v).length - j) 0 (weak_of [0] trivial (by simp) (by simp only [go_sem, Int.natCast_zero, Nat.reduceBEq, Nat.reduceAdd, Nat.reduceEqDiff, Nat.reduceLeDiff, Nat.reduceLT, Nat.reduceMul]) (by simp only [go_sem, Int.natCast_zero, Nat.reduceBEq, Nat.reduceAdd, Nat.reduceEqDiff, Nat.reduceLeDiff, Nat.reduceLT, Nat.reduceMul])) (Nat.zero_le _) (fun j hj => ?_)
        refine wpA_reg [1, 32, 33, 34, 35] [] rfl (by simp only [go_sem, Nat.reduceBEq, Nat.reduceAdd, Nat.reduceEqDiff, Nat.reduceLeDiff, Nat.reduceLT, Nat.reduceMul]; with_reducible rfl) (by first | trivial | omega | (simp +contextual [inI64] <;> omega)) ?_
        refine wpA_seq ?_
        refine wpA_cond rfl (fun hc => ?_) (fun hc => ?_)
        · have hc : j < (kids v).length := by simpa using hc
          have hg := vals_getD (kids v) hc
          have e : ((j : Int) - 1).toNat = j - 1 := by omega
          have hg2 := vals_getD (kids v) (j := j - 1) (by omega)
          have hl := vals_len (kids v)
          refine wpA_skip ?_
          refine tN ?_
          refine wpA_seq ?_
          refine wpA_block ?_
          refine wpA_reg [1, 4, 32, 33, 34] [] rfl (by simp only [go_sem, hg, hg2, e, enc4, Nat.reduceBEq, Nat.reduceAdd, Nat.reduceEqDiff, Nat.reduceLeDiff, Nat.reduceLT, Nat.reduceMul]; with_reducible rfl) (by first | trivial | omega | (simp +contextual [inI64, hl, hc] <;> omega)) ?_
          refine wpA_reg [1, 32, 33, 34, 40] [usePure (ih (vAt (kids v) j) (vAt_mem hc)) rfl cb138] rfl (by simp only [go_sem, hg, hg2, e, enc4, Nat.reduceBEq, Nat.reduceAdd, Nat.reduceEqDiff, Nat.reduceLeDiff, Nat.reduceLT, Nat.reduceMul]; with_reducible rfl) (by first | trivial | omega | (simp +contextual [inI64, hl, hc] <;> omega)) ?_
          refine wpA_cond rfl (fun hd => ?_) (fun hd => ?_)
          · exfalso
            simp at hd
          · have h3 := hd
            refine wpA_skip ?_
            refine bN (tN ?_)
            refine wpA_region [1, 32, 33, 34] [] rfl (by simp only [go_sem, hg, hg2, e, enc4, Nat.reduceBEq, Nat.reduceAdd, Nat.reduceEqDiff, Nat.reduceLeDiff, Nat.reduceLT, Nat.reduceMul]; with_reducible rfl) (by first | trivial | omega | (simp +contextual [inI64, hl, hc] <;> omega)) ?_
            refine tN ?_
            refine ⟨j + 1, hc, by omega, weak_of [0] trivial (by simp) (by simp only [go_sem, Int.natCast_add, Int.natCast_one, Nat.reduceBEq, Nat.reduceAdd, Nat.reduceEqDiff, Nat.reduceLeDiff, Nat.reduceLT, Nat.reduceMul]) (by simp only [go_sem, Int.natCast_add, Int.natCast_one, Nat.reduceBEq, Nat.reduceAdd, Nat.reduceEqDiff, Nat.reduceLeDiff, Nat.reduceLT, Nat.reduceMul])⟩
        · have hc : j = (kids v).length := by simp at hc; omega
          subst hc
          refine wpA_exit (tE (tE (bE ?_)))
          refine tN ?_
          refine wpA_reg [2] [] rfl (by simp only [go_sem, Nat.reduceBEq, Nat.reduceAdd, Nat.reduceEqDiff, Nat.reduceLeDiff, Nat.reduceLT, Nat.reduceMul]; with_reducible rfl) (by first | trivial | omega | (simp +contextual [inI64] <;> omega)) ?_
          refine wpA_ret (bR (tR ?_))
          refine endD (.inr rfl) (by simp only [go_sem, Nat.reduceBEq, Nat.reduceAdd, Nat.reduceEqDiff, Nat.reduceLeDiff, Nat.reduceLT, Nat.reduceMul]; with_reducible rfl) ?_
          have h2 := of_decide_eq_true h2
          obtain ⟨e1, e2⟩ := k3 v h2
          simp only [go_sem, Nat.reduceBEq, Nat.reduceAdd, Nat.reduceEqDiff, Nat.reduceLeDiff, Nat.reduceLT, Nat.reduceMul]
          simp [e1, e2]
      · have h2 := hd
        refine wpA_skip ?_
        refine bN (tN ?_)
        refine wpA_reg [2] [] rfl (by simp only [go_sem, Nat.reduceBEq, Nat.reduceAdd, Nat.reduceEqDiff, Nat.reduceLeDiff, Nat.reduceLT, Nat.reduceMul]; with_reducible rfl) (by first | trivial | omega | (simp +contextual [inI64] <;> omega)) ?_
        refine wpA_ret ?_
        refine endD (.inr rfl) (by simp only [go_sem, Nat.reduceBEq, Nat.reduceAdd, Nat.reduceEqDiff, Nat.reduceLeDiff, Nat.reduceLT, Nat.reduceMul]; with_reducible rfl) ?_
        exfalso
        have := kOf_cases v
        simp at h0 h1 h2
        omega

theorem f138_all : ∀ v : Val, CallsA Tryz.prog 138 [.agg (valL v)] [] (.d (boo true)) [] :=
  Val.ind (fun n => f138_walk _ (by simp [kids])) (fun s => f138_walk _ (by simp [kids])) (fun l ih => f138_walk _ (by simpa [kids] using ih))

theorem cb108 : callB Tryz.prog 108 = true := by kernel_rfl
theorem f108_walk (v : Val) (hc : cnt v ≤ 4000) (hdp : dep v ≤ 30) : CallsA Tryz.prog 108 [.agg (valL v)] [] (.d (i64 0)) [] := by
  refine callsW_of (fn := Tryz.f108) [.tmp 2] Tryz.func108 rfl rfl (by show 1 ≤ 12; omega) ?_
  refine wpA_reg [1] [] rfl (by simp only [go_sem, Nat.reduceBEq, Nat.reduceAdd, Nat.reduceEqDiff, Nat.reduceLeDiff, Nat.reduceLT, Nat.reduceMul]; with_reducible rfl) (by first | trivial | omega | (simp +contextual [inI64] <;> omega)) ?_
  refine wpA_seq ?_
  refine wpA_reg [1, 5] [usePure (f136_all v (4001) (by omega) (by omega)) rfl cb136] rfl (by simp only [go_sem, Nat.reduceBEq, Nat.reduceAdd, Nat.reduceEqDiff, Nat.reduceLeDiff, Nat.reduceLT, Nat.reduceMul]; with_reducible rfl) (by first | trivial | omega | (simp +contextual [inI64] <;> omega)) ?_
  refine wpA_cond rfl (fun hd => ?_) (fun hd => ?_)
  · exfalso
    simp at hd
    omega
  · have h0 := hd
    refine wpA_skip ?_
    refine tN ?_
    refine wpA_seq ?_
    refine wpA_reg [1, 8] [usePure (f137_all v (31) (by omega) (by omega)) rfl cb137] rfl (by simp only [go_sem, Nat.reduceBEq, Nat.reduceAdd, Nat.reduceEqDiff, Nat.reduceLeDiff, Nat.reduceLT, Nat.reduceMul]; with_reducible rfl) (by first | trivial | omega | (simp +contextual [inI64] <;> omega)) ?_
    refine wpA_cond rfl (fun hd => ?_) (fun hd => ?_)
    · exfalso
      simp at hd
      omega
    · have h1 := hd
      refine wpA_skip ?_
      refine tN ?_
      refine wpA_seq ?_
      refine wpA_reg [11] [usePure (f138_all v) rfl cb138] rfl (by simp only [go_sem, Nat.reduceBEq, Nat.reduceAdd, Nat.reduceEqDiff, Nat.reduceLeDiff, Nat.reduceLT, Nat.reduceMul]; with_reducible rfl) (by first | trivial | omega | (simp +contextual [inI64] <;> omega)) ?_
      refine wpA_cond rfl (fun hd => ?_) (fun hd => ?_)
      · exfalso
        simp at hd
      · have h2 := hd
        refine wpA_skip ?_
        refine tN ?_
        refine wpA_reg [2] [] rfl (by simp only [go_sem, Nat.reduceBEq, Nat.reduceAdd, Nat.reduceEqDiff, Nat.reduceLeDiff, Nat.reduceLT, Nat.reduceMul]; with_reducible rfl) (by first | trivial | omega | (simp +contextual [inI64] <;> omega)) ?_
        refine wpA_ret ?_
        refine endD (.inr rfl) (by simp only [go_sem, Nat.reduceBEq, Nat.reduceAdd, Nat.reduceEqDiff, Nat.reduceLeDiff, Nat.reduceLT, Nat.reduceMul]; with_reducible rfl) ?_
        simp only [go_sem]

end Go.Abs
