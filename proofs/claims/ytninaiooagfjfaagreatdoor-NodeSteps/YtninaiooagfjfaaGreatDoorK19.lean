/- The value that a state is written as; walks: how it is made. No conditions. -/
import Derived.Test.YtninaiooagfjfaaGreatDoorK18
import Derived.Test.YtninaiooagfjfaaGreatDoorK10
set_option linter.unusedVariables false
set_option linter.unusedSimpArgs false
set_option maxRecDepth 20000
namespace Go.Abs
open Go Go.RowKit Go.Proofs

/-- A value: a number, a text, a list. -/
inductive Val where
  | num (n : Int)
  | text (s : ByteArray)
  | list (l : List Val)
mutual
def encVal : Val → List D
  | .num n => [.lit (.int .i64 1), .lit (.int .i64 n), .lit (.string ⟨⟨[]⟩⟩), .lit (.slice none 0 0)]
  | .text s => [.lit (.int .i64 2), .lit (.int .i64 0), .lit (.string s), .lit (.slice none 0 0)]
  | .list l => [.lit (.int .i64 3), .lit (.int .i64 0), .lit (.string ⟨⟨[]⟩⟩), .lst (encVals l)]
def encVals : List Val → List (List D)
  | [] => []
  | v :: r => encVal v :: encVals r
end
theorem encVals_eq : ∀ l : List Val, encVals l = l.map encVal
  | [] => rfl
  | v :: r => by rw [encVals, encVals_eq r]; rfl
theorem encVal_len : ∀ v : Val, (encVal v).length = 4
  | .num .. => rfl
  | .text .. => rfl
  | .list .. => rfl
theorem encVals_app (a b : List Val) : encVals (a ++ b) = encVals a ++ encVals b := by simp [encVals_eq]
@[simp] theorem encVals_len (l : List Val) : (encVals l).length = l.length := by simp [encVals_eq]
theorem encVals_rows (l : List Val) : ∀ row ∈ encVals l, row.length = 4 := by
  intro row h
  rw [encVals_eq] at h
  obtain ⟨v, _, rfl⟩ := List.mem_map.1 h
  exact encVal_len v
theorem Val.ind {p : Val → Prop} (hn : ∀ n, p (.num n)) (ht : ∀ s, p (.text s)) (hl : ∀ l, (∀ x ∈ l, p x) → p (.list l)) : ∀ v, p v := fun v =>
  Val.rec (motive_1 := p) (motive_2 := fun l => ∀ x ∈ l, p x) hn ht (fun l h => hl l h) (by simp) (fun a r h1 h2 x hx => (List.mem_cons.1 hx).elim (fun e => e ▸ h1) (fun hx => h2 x hx)) v
def valV (v : Val) : List V := (encVal v).map .d
def numV (n : Int) : Val := .num n
def textV (s : ByteArray) : Val := .text s
def listV (l : List Val) : Val := .list l
def recV (r : Rec) : Val := listV [numV r.term, numV r.kind, textV r.data]
def recsV (l : List Rec) : Val := listV (l.map recV)
def valOf (h : Hard) : Val := listV [numV h.term, numV h.vote, numV h.log.base, numV h.log.bterm, textV h.snap, listV (h.voters.map numV), recsV h.log.recs]
attribute [go_sem] valV encVal numV listV recsV List.length_append
theorem recVs_next {l : List Rec} {j : Nat} (h : j < l.length) : encVals ((l.take (j + 1)).map recV) = encVals ((l.take j).map recV) ++ [[.lit (.int .i64 3), .lit (.int .i64 0), .lit (.string ⟨⟨[]⟩⟩),
    .lst [[.lit (.int .i64 1), .lit (.int .i64 (rAt l j).term), .lit (.string ⟨⟨[]⟩⟩), .lit (.slice none 0 0)], [.lit (.int .i64 1), .lit (.int .i64 (rAt l j).kind), .lit (.string ⟨⟨[]⟩⟩), .lit (.slice none 0 0)], [.lit (.int .i64 2), .lit (.int .i64 0), .lit (.string (rAt l j).data), .lit (.slice none 0 0)]]]] := by
  have e : rAt l j = l[j] := by simp [rAt, List.getD, h]
  rw [List.take_succ_eq_append_getElem h, List.map_append, encVals_app, e]
  simp [recV, listV, numV, textV, encVals, encVal]
theorem numVs_next {l : List Int} {j : Nat} (h : j < l.length) : encVals ((l.take (j + 1)).map numV) = encVals ((l.take j).map numV) ++ [[.lit (.int .i64 1), .lit (.int .i64 (iAt l j)), .lit (.string ⟨⟨[]⟩⟩), .lit (.slice none 0 0)]] := by
  have e : iAt l j = l[j] := by simp [iAt, List.getD, h]
  rw [List.take_succ_eq_append_getElem h, List.map_append, encVals_app, e]
  simp [numV, encVals, encVal]
theorem cb119 : callB Tryz.prog 119 = true := by kernel_rfl
theorem f119_walk (n : Int) : CallsA Tryz.prog 119 [.d (i64 n)] [] (.agg (valV (numV n))) [] := by
  refine callsW_of (fn := Tryz.f119) [.cell 2 121] Tryz.func119 rfl rfl (by show 1 ≤ 5; omega) ?_
  refine wpA_reg [0, 2] [] rfl (by simp only [go_sem, Nat.reduceBEq, Nat.reduceAdd, Nat.reduceEqDiff, Nat.reduceLeDiff, Nat.reduceLT, Nat.reduceMul]; with_reducible rfl) (by first | trivial | omega | (simp +contextual [inI64] <;> omega)) ?_
  refine wpA_reg [2] [] rfl (by simp only [go_sem, Nat.reduceBEq, Nat.reduceAdd, Nat.reduceEqDiff, Nat.reduceLeDiff, Nat.reduceLT, Nat.reduceMul]; with_reducible rfl) (by first | trivial | omega | (simp +contextual [inI64] <;> omega)) ?_
  refine wpA_ret ?_
  refine endD (.inr rfl) (by simp only [go_sem, Nat.reduceBEq, Nat.reduceAdd, Nat.reduceEqDiff, Nat.reduceLeDiff, Nat.reduceLT, Nat.reduceMul]; with_reducible rfl) ?_
  simp only [go_sem]

theorem cb94 : callB Tryz.prog 94 = true := by kernel_rfl
theorem f94_walk (n : Int) : CallsA Tryz.prog 94 [.d (i64 n)] [] (.agg (valV (numV n))) [] := by
  refine callsW_of (fn := Tryz.f94) [.cell 2 121] Tryz.func94 rfl rfl (by show 1 ≤ 5; omega) ?_
  refine wpA_reg [0, 2] [] rfl (by simp only [go_sem, Nat.reduceBEq, Nat.reduceAdd, Nat.reduceEqDiff, Nat.reduceLeDiff, Nat.reduceLT, Nat.reduceMul]; with_reducible rfl) (by first | trivial | omega | (simp +contextual [inI64] <;> omega)) ?_
  refine wpA_reg [2] [] rfl (by simp only [go_sem, Nat.reduceBEq, Nat.reduceAdd, Nat.reduceEqDiff, Nat.reduceLeDiff, Nat.reduceLT, Nat.reduceMul]; with_reducible rfl) (by first | trivial | omega | (simp +contextual [inI64] <;> omega)) ?_
  refine wpA_ret ?_
  refine endD (.inr rfl) (by simp only [go_sem, Nat.reduceBEq, Nat.reduceAdd, Nat.reduceEqDiff, Nat.reduceLeDiff, Nat.reduceLT, Nat.reduceMul]; with_reducible rfl) ?_
  simp only [go_sem]

theorem cb120 : callB Tryz.prog 120 = true := by kernel_rfl
theorem f120_walk (l : List Rec) (hlen : l.length ≤ 1000000) : CallsA Tryz.prog 120 [.d (recs l)] [] (.agg (valV (recsV l))) [] := by
  refine callsW_of (fn := Tryz.f120) [.cell 2 121] Tryz.func120 rfl rfl (by show 1 ≤ 31; omega) ?_
  refine wpA_reg [0, 2] [] rfl (by simp only [go_sem, Nat.reduceBEq, Nat.reduceAdd, Nat.reduceEqDiff, Nat.reduceLeDiff, Nat.reduceLT, Nat.reduceMul]; with_reducible rfl) (by first | trivial | omega | (simp +contextual [inI64] <;> omega)) ?_
  refine wpA_reg [0, 2, 3] [] rfl (by simp only [go_sem, Nat.reduceBEq, Nat.reduceAdd, Nat.reduceEqDiff, Nat.reduceLeDiff, Nat.reduceLT, Nat.reduceMul]; with_reducible rfl) (by first | trivial | omega | (simp +contextual [inI64] <;> omega)) ?_
  refine wpA_seq ?_
  refine wpA_reg [2, 3, 7, 8, 9] [] rfl (by simp only [go_sem, Nat.reduceBEq, Nat.reduceAdd, Nat.reduceEqDiff, Nat.reduceLeDiff, Nat.reduceLT, Nat.reduceMul]; with_reducible rfl) (by first | trivial | omega | (simp +contextual [inI64] <;> omega)) ?_
  refine wpA_block ?_
  refine wpA_loop (fun j : Nat => ⟨[(2, .ptr 0 0), (3, .ptr 1 0), (7, .d (recs l)), (8, .d (i64 l.length)), (9, .d (i64 j))], enum [.var 121 [.d (i64 0), .d (i64 0), .d (.lit (.string ⟨⟨[]⟩⟩)), .d (.lit (.slice none 0 0))], .var 121 [.d (i64 3), .d (i64 0), .d (.lit (.string ⟨⟨[]⟩⟩)), .own 2], .row 121 4 (encVals ((l.take j).map recV))] 0, 3⟩) (fun j => j ≤ l.length) (fun j => l.length - j) 0 ((weak_ownV (k := 2) (i := 3) (el := 121) (sz := 4) rfl rfl).trans (weak_of [0, 2, 7] trivial (by simp) (by simp only [go_sem, Int.natCast_zero, List.take_zero, List.map_nil, encVals, Nat.reduceBEq, Nat.reduceAdd, Nat.reduceEqDiff, Nat.reduceLeDiff, Nat.reduceLT, Nat.reduceMul]) (by simp only [go_sem, Int.natCast_zero, List.take_zero, List.map_nil, encVals, Nat.reduceBEq, Nat.reduceAdd, Nat.reduceEqDiff, Nat.reduceLeDiff, Nat.reduceLT, Nat.reduceMul]))) (Nat.zero_le _) (fun j hj => ?_)
  refine wpA_reg [2, 3, 7, 8, 9, 10] [] rfl (by simp only [go_sem, Nat.reduceBEq, Nat.reduceAdd, Nat.reduceEqDiff, Nat.reduceLeDiff, Nat.reduceLT, Nat.reduceMul]; with_reducible rfl) (by first | trivial | omega | (simp +contextual [inI64] <;> omega)) ?_
  refine wpA_seq ?_
  refine wpA_cond rfl (fun hc => ?_) (fun hc => ?_)
  · have hc : j < l.length := by simpa using hc
    have hg := recs_getD l hc
    have e : ((j : Int) - 1).toNat = j - 1 := by omega
    have hg2 := recs_getD l (j := j - 1) (by omega)
    have hl := recs_len l
    refine wpA_skip ?_
    refine tN ?_
    refine wpA_seq ?_
    refine wpA_block ?_
    refine wpA_reg [2, 3, 5, 7, 8, 9] [] rfl (by simp only [go_sem, hg, hg2, e, encRec, Nat.reduceBEq, Nat.reduceAdd, Nat.reduceEqDiff, Nat.reduceLeDiff, Nat.reduceLT, Nat.reduceMul]; with_reducible rfl) (by first | trivial | omega | (simp +contextual [inI64, hl, hc] <;> omega)) ?_
    refine wpA_drawn [[3], [13], [5], [15], [16], [5], [18], [19], [5], [21], [22], [17, 20, 23], [24], [25], [14, 26], [3], [27, 28]] [2, 3, 7, 8, 9] [usePure (f119_walk ((rAt l j).term)) rfl cb119, usePure (f119_walk ((rAt l j).kind)) rfl cb119] mx rfl (by simp only [go_sem, hg, hg2, e, encRec, Nat.reduceBEq, Nat.reduceAdd, Nat.reduceEqDiff, Nat.reduceLeDiff, Nat.reduceLT, Nat.reduceMul]; with_reducible rfl) (by kernel_rfl) (by first | trivial | omega | (simp +contextual [inI64, hl, hc] <;> omega)) ?_
    refine bN (tN ?_)
    refine wpA_region [2, 3, 7, 8, 9] [] rfl (by simp only [go_sem, hg, hg2, e, encRec, Nat.reduceBEq, Nat.reduceAdd, Nat.reduceEqDiff, Nat.reduceLeDiff, Nat.reduceLT, Nat.reduceMul]; with_reducible rfl) (by first | trivial | omega | (simp +contextual [inI64, hl, hc] <;> omega)) ?_
    refine tN ?_
    refine ⟨j + 1, hc, by omega, weak_of [0, 1, 22] trivial (by simp) (by simp only [go_sem, Int.natCast_add, Int.natCast_one, recVs_next hc, Nat.reduceBEq, Nat.reduceAdd, Nat.reduceEqDiff, Nat.reduceLeDiff, Nat.reduceLT, Nat.reduceMul]) (by simp only [go_sem, Int.natCast_add, Int.natCast_one, recVs_next hc, Nat.reduceBEq, Nat.reduceAdd, Nat.reduceEqDiff, Nat.reduceLeDiff, Nat.reduceLT, Nat.reduceMul])⟩
  · have hc : j = l.length := by simp at hc; omega
    subst hc
    rw [List.take_length]
    refine wpA_exit (tE (tE (bE ?_)))
    refine tN ?_
    refine wpA_reg [2] [] rfl (by simp only [go_sem, Nat.reduceBEq, Nat.reduceAdd, Nat.reduceEqDiff, Nat.reduceLeDiff, Nat.reduceLT, Nat.reduceMul]; with_reducible rfl) (by first | trivial | omega | (simp +contextual [inI64] <;> omega)) ?_
    refine wpA_ret ?_
    refine endD (.inr rfl) (by simp only [go_sem, Nat.reduceBEq, Nat.reduceAdd, Nat.reduceEqDiff, Nat.reduceLeDiff, Nat.reduceLT, Nat.reduceMul]; with_reducible rfl) ?_
    simp only [go_sem, Nat.reduceBEq, Nat.reduceAdd, Nat.reduceEqDiff, Nat.reduceLeDiff, Nat.reduceLT, Nat.reduceMul]

theorem cb96 : callB Tryz.prog 96 = true := by kernel_rfl
theorem f96_walk (l : List Rec) (hlen : l.length ≤ 1000000) : CallsA Tryz.prog 96 [.d (recs l)] [] (.agg (valV (recsV l))) [] := by
  refine callsW_of (fn := Tryz.f96) [.cell 2 121] Tryz.func96 rfl rfl (by show 1 ≤ 31; omega) ?_
  refine wpA_reg [0, 2] [] rfl (by simp only [go_sem, Nat.reduceBEq, Nat.reduceAdd, Nat.reduceEqDiff, Nat.reduceLeDiff, Nat.reduceLT, Nat.reduceMul]; with_reducible rfl) (by first | trivial | omega | (simp +contextual [inI64] <;> omega)) ?_
  refine wpA_reg [0, 2, 3] [] rfl (by simp only [go_sem, Nat.reduceBEq, Nat.reduceAdd, Nat.reduceEqDiff, Nat.reduceLeDiff, Nat.reduceLT, Nat.reduceMul]; with_reducible rfl) (by first | trivial | omega | (simp +contextual [inI64] <;> omega)) ?_
  refine wpA_seq ?_
  refine wpA_reg [2, 3, 7, 8, 9] [] rfl (by simp only [go_sem, Nat.reduceBEq, Nat.reduceAdd, Nat.reduceEqDiff, Nat.reduceLeDiff, Nat.reduceLT, Nat.reduceMul]; with_reducible rfl) (by first | trivial | omega | (simp +contextual [inI64] <;> omega)) ?_
  refine wpA_block ?_
  refine wpA_loop (fun j : Nat => ⟨[(2, .ptr 0 0), (3, .ptr 1 0), (7, .d (recs l)), (8, .d (i64 l.length)), (9, .d (i64 j))], enum [.var 121 [.d (i64 0), .d (i64 0), .d (.lit (.string ⟨⟨[]⟩⟩)), .d (.lit (.slice none 0 0))], .var 121 [.d (i64 3), .d (i64 0), .d (.lit (.string ⟨⟨[]⟩⟩)), .own 2], .row 121 4 (encVals ((l.take j).map recV))] 0, 3⟩) (fun j => j ≤ l.length) (fun j => l.length - j) 0 ((weak_ownV (k := 2) (i := 3) (el := 121) (sz := 4) rfl rfl).trans (weak_of [0, 2, 7] trivial (by simp) (by simp only [go_sem, Int.natCast_zero, List.take_zero, List.map_nil, encVals, Nat.reduceBEq, Nat.reduceAdd, Nat.reduceEqDiff, Nat.reduceLeDiff, Nat.reduceLT, Nat.reduceMul]) (by simp only [go_sem, Int.natCast_zero, List.take_zero, List.map_nil, encVals, Nat.reduceBEq, Nat.reduceAdd, Nat.reduceEqDiff, Nat.reduceLeDiff, Nat.reduceLT, Nat.reduceMul]))) (Nat.zero_le _) (fun j hj => ?_)
  refine wpA_reg [2, 3, 7, 8, 9, 10] [] rfl (by simp only [go_sem, Nat.reduceBEq, Nat.reduceAdd, Nat.reduceEqDiff, Nat.reduceLeDiff, Nat.reduceLT, Nat.reduceMul]; with_reducible rfl) (by first | trivial | omega | (simp +contextual [inI64] <;> omega)) ?_
  refine wpA_seq ?_
  refine wpA_cond rfl (fun hc => ?_) (fun hc => ?_)
  · have hc : j < l.length := by simpa using hc
    have hg := recs_getD l hc
    have e : ((j : Int) - 1).toNat = j - 1 := by omega
    have hg2 := recs_getD l (j := j - 1) (by omega)
    have hl := recs_len l
    refine wpA_skip ?_
    refine tN ?_
    refine wpA_seq ?_
    refine wpA_block ?_
    refine wpA_reg [2, 3, 5, 7, 8, 9] [] rfl (by simp only [go_sem, hg, hg2, e, encRec, Nat.reduceBEq, Nat.reduceAdd, Nat.reduceEqDiff, Nat.reduceLeDiff, Nat.reduceLT, Nat.reduceMul]; with_reducible rfl) (by first | trivial | omega | (simp +contextual [inI64, hl, hc] <;> omega)) ?_
    refine wpA_drawn [[3], [13], [5], [15], [16], [5], [18], [19], [5], [21], [22], [17, 20, 23], [24], [25], [14, 26], [3], [27, 28]] [2, 3, 7, 8, 9] [usePure (f94_walk ((rAt l j).term)) rfl cb94, usePure (f94_walk ((rAt l j).kind)) rfl cb94] mx rfl (by simp only [go_sem, hg, hg2, e, encRec, Nat.reduceBEq, Nat.reduceAdd, Nat.reduceEqDiff, Nat.reduceLeDiff, Nat.reduceLT, Nat.reduceMul]; with_reducible rfl) (by kernel_rfl) (by first | trivial | omega | (simp +contextual [inI64, hl, hc] <;> omega)) ?_
    refine bN (tN ?_)
    refine wpA_region [2, 3, 7, 8, 9] [] rfl (by simp only [go_sem, hg, hg2, e, encRec, Nat.reduceBEq, Nat.reduceAdd, Nat.reduceEqDiff, Nat.reduceLeDiff, Nat.reduceLT, Nat.reduceMul]; with_reducible rfl) (by first | trivial | omega | (simp +contextual [inI64, hl, hc] <;> omega)) ?_
    refine tN ?_
    refine ⟨j + 1, hc, by omega, weak_of [0, 1, 22] trivial (by simp) (by simp only [go_sem, Int.natCast_add, Int.natCast_one, recVs_next hc, Nat.reduceBEq, Nat.reduceAdd, Nat.reduceEqDiff, Nat.reduceLeDiff, Nat.reduceLT, Nat.reduceMul]) (by simp only [go_sem, Int.natCast_add, Int.natCast_one, recVs_next hc, Nat.reduceBEq, Nat.reduceAdd, Nat.reduceEqDiff, Nat.reduceLeDiff, Nat.reduceLT, Nat.reduceMul])⟩
  · have hc : j = l.length := by simp at hc; omega
    subst hc
    rw [List.take_length]
    refine wpA_exit (tE (tE (bE ?_)))
    refine tN ?_
    refine wpA_reg [2] [] rfl (by simp only [go_sem, Nat.reduceBEq, Nat.reduceAdd, Nat.reduceEqDiff, Nat.reduceLeDiff, Nat.reduceLT, Nat.reduceMul]; with_reducible rfl) (by first | trivial | omega | (simp +contextual [inI64] <;> omega)) ?_
    refine wpA_ret ?_
    refine endD (.inr rfl) (by simp only [go_sem, Nat.reduceBEq, Nat.reduceAdd, Nat.reduceEqDiff, Nat.reduceLeDiff, Nat.reduceLT, Nat.reduceMul]; with_reducible rfl) ?_
    simp only [go_sem, Nat.reduceBEq, Nat.reduceAdd, Nat.reduceEqDiff, Nat.reduceLeDiff, Nat.reduceLT, Nat.reduceMul]

theorem cb101 : callB Tryz.prog 101 = true := by kernel_rfl
theorem f101_walk (h : Hard) (hlen : h.voters.length ≤ 1000000) (hlenr : h.log.recs.length ≤ 1000000) : CallsA Tryz.prog 101 [.agg (hardV h)] [] (.agg (valV (valOf h))) [] := by
  refine callsW_of (fn := Tryz.f101) [.cell 2 121] Tryz.func101 rfl rfl (by show 1 ≤ 46; omega) ?_
  refine wpA_reg [1, 2] [] rfl (by simp only [go_sem, Nat.reduceBEq, Nat.reduceAdd, Nat.reduceEqDiff, Nat.reduceLeDiff, Nat.reduceLT, Nat.reduceMul]; with_reducible rfl) (by first | trivial | omega | (simp +contextual [inI64] <;> omega)) ?_
  refine wpA_reg [1, 2, 3] [] rfl (by simp only [go_sem, Nat.reduceBEq, Nat.reduceAdd, Nat.reduceEqDiff, Nat.reduceLeDiff, Nat.reduceLT, Nat.reduceMul]; with_reducible rfl) (by first | trivial | omega | (simp +contextual [inI64] <;> omega)) ?_
  refine wpA_seq ?_
  refine wpA_reg [1, 2, 3, 8, 9, 10] [] rfl (by simp only [go_sem, Nat.reduceBEq, Nat.reduceAdd, Nat.reduceEqDiff, Nat.reduceLeDiff, Nat.reduceLT, Nat.reduceMul]; with_reducible rfl) (by first | trivial | omega | (simp +contextual [inI64] <;> omega)) ?_
  refine wpA_block ?_
  refine wpA_loop (fun j : Nat => ⟨[(1, .ptr 0 0), (2, .ptr 1 0), (3, .ptr 2 0), (8, .d (ints h.voters)), (9, .d (i64 h.voters.length)), (10, .d (i64 j))], enum [.var 27 (hardV h), .var 121 [.d (i64 0), .d (i64 0), .d (.lit (.string ⟨⟨[]⟩⟩)), .d (.lit (.slice none 0 0))], .var 121 [.d (i64 3), .d (i64 0), .d (.lit (.string ⟨⟨[]⟩⟩)), .own 3], .row 121 4 (encVals ((h.voters.take j).map numV))] 0, 4⟩) (fun j => j ≤ h.voters.length) (fun j => h.voters.length - j) 0 ((weak_ownV (k := 3) (i := 3) (el := 121) (sz := 4) rfl rfl).trans (weak_of [0, 1, 3, 9] trivial (by simp) (by simp only [go_sem, Int.natCast_zero, List.take_zero, List.map_nil, encVals, Nat.reduceBEq, Nat.reduceAdd, Nat.reduceEqDiff, Nat.reduceLeDiff, Nat.reduceLT, Nat.reduceMul]) (by simp only [go_sem, Int.natCast_zero, List.take_zero, List.map_nil, encVals, Nat.reduceBEq, Nat.reduceAdd, Nat.reduceEqDiff, Nat.reduceLeDiff, Nat.reduceLT, Nat.reduceMul]))) (Nat.zero_le _) (fun j hj => ?_)
  refine wpA_reg [1, 2, 3, 8, 9, 10, 11] [] rfl (by simp only [go_sem, Nat.reduceBEq, Nat.reduceAdd, Nat.reduceEqDiff, Nat.reduceLeDiff, Nat.reduceLT, Nat.reduceMul]; with_reducible rfl) (by first | trivial | omega | (simp +contextual [inI64] <;> omega)) ?_
  refine wpA_seq ?_
  refine wpA_cond rfl (fun hc => ?_) (fun hc => ?_)
  · have hc : j < h.voters.length := by simpa using hc
    have hg := ints_getD h.voters hc
    have e : ((j : Int) - 1).toNat = j - 1 := by omega
    have hg2 := ints_getD h.voters (j := j - 1) (by omega)
    have hl := ints_len h.voters
    refine wpA_skip ?_
    refine tN ?_
    refine wpA_seq ?_
    refine wpA_block ?_
    refine wpA_reg [1, 2, 3, 5, 8, 9, 10] [] rfl (by simp only [go_sem, hg, hg2, e, encI, Nat.reduceBEq, Nat.reduceAdd, Nat.reduceEqDiff, Nat.reduceLeDiff, Nat.reduceLT, Nat.reduceMul]; with_reducible rfl) (by first | trivial | omega | (simp +contextual [inI64, hl, hc] <;> omega)) ?_
    refine wpA_drawn [[3], [14], [5], [16], [17], [15, 18], [3], [19, 20]] [1, 2, 3, 8, 9, 10] [usePure (f119_walk (iAt h.voters j)) rfl cb119] mx rfl (by simp only [go_sem, hg, hg2, e, encI, Nat.reduceBEq, Nat.reduceAdd, Nat.reduceEqDiff, Nat.reduceLeDiff, Nat.reduceLT, Nat.reduceMul]; with_reducible rfl) (by kernel_rfl) (by first | trivial | omega | (simp +contextual [inI64, hl, hc] <;> omega)) ?_
    refine bN (tN ?_)
    refine wpA_region [1, 2, 3, 8, 9, 10] [] rfl (by simp only [go_sem, hg, hg2, e, encI, Nat.reduceBEq, Nat.reduceAdd, Nat.reduceEqDiff, Nat.reduceLeDiff, Nat.reduceLT, Nat.reduceMul]; with_reducible rfl) (by first | trivial | omega | (simp +contextual [inI64, hl, hc] <;> omega)) ?_
    refine tN ?_
    refine ⟨j + 1, hc, by omega, weak_of [0, 1, 2, 13] trivial (by simp) (by simp only [go_sem, Int.natCast_add, Int.natCast_one, numVs_next hc, Nat.reduceBEq, Nat.reduceAdd, Nat.reduceEqDiff, Nat.reduceLeDiff, Nat.reduceLT, Nat.reduceMul]) (by simp only [go_sem, Int.natCast_add, Int.natCast_one, numVs_next hc, Nat.reduceBEq, Nat.reduceAdd, Nat.reduceEqDiff, Nat.reduceLeDiff, Nat.reduceLT, Nat.reduceMul])⟩
  · have hc : j = h.voters.length := by simp at hc; omega
    subst hc
    rw [List.take_length]
    refine wpA_exit (tE (tE (bE ?_)))
    refine tN ?_
    refine wpA_regD [[1], [22], [23], [1], [25], [26], [1], [28], [29], [30], [1], [32], [33], [34], [1], [36], [37], [3], [1], [40], [41], [42], [24, 27, 31, 35, 38, 39, 43], [44], [2, 45]] [2] [usePure (f119_walk (h.term)) rfl cb119, usePure (f119_walk (h.vote)) rfl cb119, usePure (f119_walk (h.log.base)) rfl cb119, usePure (f119_walk (h.log.bterm)) rfl cb119, usePure (f120_walk h.log.recs hlenr) rfl cb120] mx rfl (by simp only [go_sem, Nat.reduceBEq, Nat.reduceAdd, Nat.reduceEqDiff, Nat.reduceLeDiff, Nat.reduceLT, Nat.reduceMul]; with_reducible rfl) (by kernel_rfl) (by first | trivial | omega | (simp +contextual [inI64] <;> omega)) ?_
    refine wpA_ret ?_
    refine endD (.inr rfl) (by simp only [go_sem, Nat.reduceBEq, Nat.reduceAdd, Nat.reduceEqDiff, Nat.reduceLeDiff, Nat.reduceLT, Nat.reduceMul]; with_reducible rfl) ?_
    simp only [go_sem, valOf, textV, encVals, Nat.reduceBEq, Nat.reduceAdd, Nat.reduceEqDiff, Nat.reduceLeDiff, Nat.reduceLT, Nat.reduceMul]

end Go.Abs
