/- Walks: how a value is put. No conditions. -/
import Derived.Test.YtninaiooagfjfaaGreatDoorK27
set_option linter.unusedVariables false
set_option linter.unusedSimpArgs false
set_option maxRecDepth 20000
namespace Go.Abs
open Go Go.RowKit Go.Proofs

theorem bytesOf_108 : bytesOf [[.lit (.int .u8 108)]] = ⟨#[108]⟩ := rfl
theorem rowsOf_108 : rowsOf ⟨#[108]⟩ = [[.lit (.int .u8 108)]] := rfl
theorem bytesOf_101 : bytesOf [[.lit (.int .u8 101)]] = ⟨#[101]⟩ := rfl
theorem rowsOf_101 : rowsOf ⟨#[101]⟩ = [[.lit (.int .u8 101)]] := rfl
attribute [go_sem] bytesOf_108 rowsOf_108 bytesOf_101 rowsOf_101
/-- What putting yields. -/
def putRes (b : ByteArray) : V := .tup [.d (str (if b.size ≤ 131072 then b else ⟨⟨[]⟩⟩)), .d (i64 (if b.size ≤ 131072 then 0 else 2))]
theorem f112_all : ∀ (v : Val) (s : ByteArray), fitV v → s.size + (encB v).size ≤ 140737488355328 → CallsA Tryz.prog 112 [.agg (valL v), .ptr 0 0, .ptr 1 0] [.var 138 [.ptr 0 0, .own 2], .var 139 [.fn 112 [.ptr 0 0, .ptr 1 0]], .inv (ByI 5 s)] (.tup []) [.var 138 [.ptr 0 0, .own 3], .var 139 [.fn 112 [.ptr 0 0, .ptr 1 0]], .dead, .inv (ByI 5 (s ++ encB v))] :=
  Val.ind (fun n => f112_walk _ (by simp [kids])) (fun s => f112_walk _ (by simp [kids])) (fun l ih => f112_walk _ (by simpa [kids] using ih))

theorem f112_nil (v : Val) (hk : kOf v = 3) (hok : fitV v) (hsz : (encB v).size ≤ 140737488355328) : CallsA Tryz.prog 112 [.agg (valL v), .ptr 0 0, .ptr 1 0] [.var 138 [nilP, nilS], .var 139 [.fn 112 [.ptr 0 0, .ptr 1 0]]] (.tup []) [.var 138 [.ptr 0 0, .own 2], .var 139 [.fn 112 [.ptr 0 0, .ptr 1 0]], .inv (ByI 5 (encB v))] := by
  refine callsA_lenA (k := 0) (i := 3) rfl rfl fun hlen => ?_
  rw [encVals_len] at hlen
  have hE := encB_list v hk
  have hB := congrArg ByteArray.size hE
  simp only [size_append, size_one] at hB
  refine callsW_of (fn := Tryz.f112) [] Tryz.func112 rfl rfl (by show 3 ≤ 40; omega) ?_
  refine wpA_reg [1, 2, 3] [] rfl (by simp only [go_sem, Nat.reduceBEq, Nat.reduceAdd, Nat.reduceEqDiff, Nat.reduceLeDiff, Nat.reduceLT, Nat.reduceMul]; with_reducible rfl) (by first | trivial | omega | (simp +contextual [inI64, size_append, size_one] <;> omega)) ?_
  refine wpA_reg [1, 2, 3, 7] [] rfl (by simp only [go_sem, Nat.reduceBEq, Nat.reduceAdd, Nat.reduceEqDiff, Nat.reduceLeDiff, Nat.reduceLT, Nat.reduceMul]; with_reducible rfl) (by first | trivial | omega | (simp +contextual [inI64, size_append, size_one] <;> omega)) ?_
  refine wpA_block ?_
  refine wpA_reg [1, 2, 3, 7, 21] [] rfl (by simp only [go_sem, Nat.reduceBEq, Nat.reduceAdd, Nat.reduceEqDiff, Nat.reduceLeDiff, Nat.reduceLT, Nat.reduceMul]; with_reducible rfl) (by first | trivial | omega | (simp +contextual [inI64, size_append, size_one] <;> omega)) ?_
  refine wpA_cond rfl (fun hd => ?_) (fun hd => ?_)
  · exfalso
    have hd := of_decide_eq_true hd
    omega
  · have h0 := hd
    refine wpA_reg [1, 2, 3, 29] [] rfl (by simp only [go_sem, Nat.reduceBEq, Nat.reduceAdd, Nat.reduceEqDiff, Nat.reduceLeDiff, Nat.reduceLT, Nat.reduceMul]; with_reducible rfl) (by first | trivial | omega | (simp +contextual [inI64, size_append, size_one] <;> omega)) ?_
    refine wpA_cond rfl (fun hd => ?_) (fun hd => ?_)
    · exfalso
      have hd := of_decide_eq_true hd
      omega
    · have h1 := hd
      refine wpA_reg [1, 2, 3] [useAt [0] f116_n (id rfl) (id rfl) cb116] rfl (by simp only [go_sem, Nat.reduceBEq, Nat.reduceAdd, Nat.reduceEqDiff, Nat.reduceLeDiff, Nat.reduceLT, Nat.reduceMul]; with_reducible rfl) (by first | trivial | omega | (simp +contextual [inI64, size_append, size_one] <;> omega)) ?_
      refine wpA_seq ?_
      refine wpA_reg [1, 2, 10, 11, 12] [] rfl (by simp only [go_sem, Nat.reduceBEq, Nat.reduceAdd, Nat.reduceEqDiff, Nat.reduceLeDiff, Nat.reduceLT, Nat.reduceMul]; with_reducible rfl) (by first | trivial | omega | (simp +contextual [inI64, size_append, size_one] <;> omega)) ?_
      refine wpA_block ?_
      refine wpA_loop (fun j : Nat => ⟨[(1, .ptr 0 0), (2, .ptr 1 0), (10, .d (vals (kids v))), (11, .d (i64 ((kids v).length))), (12, .d (i64 j))], enum [.var 138 [.ptr 0 0, .own 2], .var 139 [.fn 112 [.ptr 0 0, .ptr 1 0]], .inv (ByI 5 (⟨#[108]⟩ ++ encTo v j))] 0, 3⟩) (fun j => j ≤ (kids v).length) (fun j => (kids v).length - j) 0 (weak_of [0, 1, 9] (by simp [firsts]) (by simp) (by simp only [go_sem, Int.natCast_zero, encTo_zero, append_none, Nat.reduceBEq, Nat.reduceAdd, Nat.reduceEqDiff, Nat.reduceLeDiff, Nat.reduceLT, Nat.reduceMul]) (by simp only [go_sem, Int.natCast_zero, encTo_zero, append_none, Nat.reduceBEq, Nat.reduceAdd, Nat.reduceEqDiff, Nat.reduceLeDiff, Nat.reduceLT, Nat.reduceMul])) (Nat.zero_le _) (fun j hj => ?_)
      refine wpA_reg [1, 2, 10, 11, 12, 13] [] rfl (by simp only [go_sem, Nat.reduceBEq, Nat.reduceAdd, Nat.reduceEqDiff, Nat.reduceLeDiff, Nat.reduceLT, Nat.reduceMul]; with_reducible rfl) (by first | trivial | omega | (simp +contextual [inI64, size_append, size_one] <;> omega)) ?_
      refine wpA_seq ?_
      refine wpA_cond rfl (fun hc => ?_) (fun hc => ?_)
      · have hc : j < (kids v).length := by simpa using hc
        have hg := vals_getD (kids v) hc
        have e : ((j : Int) - 1).toNat = j - 1 := by omega
        have hg2 := vals_getD (kids v) (j := j - 1) (by omega)
        have hl := vals_len (kids v)
        have hle := encTo_le v hc
        refine wpA_skip ?_
        refine tN ?_
        refine wpA_seq ?_
        refine wpA_block ?_
        refine wpA_reg [1, 2, 5, 10, 11, 12] [] rfl (by simp only [go_sem, hg, hg2, e, enc4, Nat.reduceBEq, Nat.reduceAdd, Nat.reduceEqDiff, Nat.reduceLeDiff, Nat.reduceLT, Nat.reduceMul]; with_reducible rfl) (by first | trivial | omega | (simp +contextual [inI64, hl, hc, size_append, size_one] <;> omega)) ?_
        refine wpA_region [1, 2, 10, 11, 12] [useAt [0, 1, 2] (f112_all (vAt (kids v) j) (⟨#[108]⟩ ++ encTo v j) (fitV_at hok hc) (by (try simp only [size_append, size_one]); omega)) (id rfl) (id rfl) cb112] rfl (by simp only [go_sem, hg, hg2, e, enc4, Nat.reduceBEq, Nat.reduceAdd, Nat.reduceEqDiff, Nat.reduceLeDiff, Nat.reduceLT, Nat.reduceMul]; with_reducible rfl) (by first | trivial | omega | (simp +contextual [inI64, hl, hc, size_append, size_one] <;> omega)) ?_
        refine bN (tN ?_)
        refine wpA_region [1, 2, 10, 11, 12] [] rfl (by simp only [go_sem, hg, hg2, e, enc4, Nat.reduceBEq, Nat.reduceAdd, Nat.reduceEqDiff, Nat.reduceLeDiff, Nat.reduceLT, Nat.reduceMul]; with_reducible rfl) (by first | trivial | omega | (simp +contextual [inI64, hl, hc, size_append, size_one] <;> omega)) ?_
        refine tN ?_
        refine ⟨j + 1, hc, by omega, weak_of [0, 1, 10] (by simp [firsts]) (by simp) (by simp only [go_sem, Int.natCast_add, Int.natCast_one, encTo_next v hc, ByteArray.append_assoc, Nat.reduceBEq, Nat.reduceAdd, Nat.reduceEqDiff, Nat.reduceLeDiff, Nat.reduceLT, Nat.reduceMul]) (by simp only [go_sem, Int.natCast_add, Int.natCast_one, encTo_next v hc, ByteArray.append_assoc, Nat.reduceBEq, Nat.reduceAdd, Nat.reduceEqDiff, Nat.reduceLeDiff, Nat.reduceLT, Nat.reduceMul])⟩
      · have hc : j = (kids v).length := by simp at hc; omega
        subst hc
        refine wpA_exit (tE (tE (bE ?_)))
        refine tN ?_
        refine wpA_region [] [useAt [0, 2] (f116_e (⟨#[108]⟩ ++ encTo v (kids v).length) (by (try simp only [size_append, size_one]); omega)) (id rfl) (id rfl) cb116] rfl (by simp only [go_sem, Nat.reduceBEq, Nat.reduceAdd, Nat.reduceEqDiff, Nat.reduceLeDiff, Nat.reduceLT, Nat.reduceMul]; with_reducible rfl) (by first | trivial | omega | (simp +contextual [inI64, size_append, size_one] <;> omega)) ?_
        refine bN ?_
        refine endB [0, 1, 4] (.inl rfl) (by simp only [go_sem, Nat.reduceBEq, Nat.reduceAdd, Nat.reduceEqDiff, Nat.reduceLeDiff, Nat.reduceLT, Nat.reduceMul]; with_reducible rfl) (by simp [firsts]) (by simp) (by simp only [go_sem, hE, ByteArray.append_assoc, Nat.reduceBEq, Nat.reduceAdd, Nat.reduceEqDiff, Nat.reduceLeDiff, Nat.reduceLT, Nat.reduceMul]) ?_
        simp only [go_sem]

theorem cb100 : callB Tryz.prog 100 = true := by kernel_rfl
theorem f100_walk (v : Val) (hc : cnt v ≤ 4000) (hdp : dep v ≤ 30) (hk : kOf v = 3) (hok : fitV v) (hsz : (encB v).size ≤ 140737488355328) (hpos : 0 < (encB v).size) : CallsA Tryz.prog 100 [.agg (valL v)] [] (putRes (encB v)) [] := by
  refine callsW_of (fn := Tryz.f100) [.tmp 2, .tmp 3] Tryz.func100 rfl rfl (by show 1 ≤ 19; omega) ?_
  refine wpA_reg [1] [] rfl (by simp only [go_sem, Nat.reduceBEq, Nat.reduceAdd, Nat.reduceEqDiff, Nat.reduceLeDiff, Nat.reduceLT, Nat.reduceMul]; with_reducible rfl) (by first | trivial | omega | (simp +contextual [inI64] <;> omega)) ?_
  refine wpA_seq ?_
  refine wpA_reg [1, 4] [usePure (f111_walk v hc hdp) rfl cb111] rfl (by simp only [go_sem, Nat.reduceBEq, Nat.reduceAdd, Nat.reduceEqDiff, Nat.reduceLeDiff, Nat.reduceLT, Nat.reduceMul]; with_reducible rfl) (by first | trivial | omega | (simp +contextual [inI64] <;> omega)) ?_
  refine wpA_reg [1, 4, 10] [] rfl (by simp only [go_sem, Nat.reduceBEq, Nat.reduceAdd, Nat.reduceEqDiff, Nat.reduceLeDiff, Nat.reduceLT, Nat.reduceMul]; with_reducible rfl) (by first | trivial | omega | (simp +contextual [inI64] <;> omega)) ?_
  refine wpA_cond rfl (fun hd => ?_) (fun hd => ?_)
  · exfalso
    simp at hd
  · have h0 := hd
    refine wpA_skip ?_
    refine tN ?_
    refine wpA_reg [1, 5] [] rfl (by simp only [go_sem, Nat.reduceBEq, Nat.reduceAdd, Nat.reduceEqDiff, Nat.reduceLeDiff, Nat.reduceLT, Nat.reduceMul]; with_reducible rfl) (by first | trivial | omega | (simp +contextual [inI64] <;> omega)) ?_
    refine wpA_reg [1, 5, 6] [] rfl (by simp only [go_sem, Nat.reduceBEq, Nat.reduceAdd, Nat.reduceEqDiff, Nat.reduceLeDiff, Nat.reduceLT, Nat.reduceMul]; with_reducible rfl) (by first | trivial | omega | (simp +contextual [inI64] <;> omega)) ?_
    refine wpA_reg [1, 5, 6] [] rfl (by simp only [go_sem, Nat.reduceBEq, Nat.reduceAdd, Nat.reduceEqDiff, Nat.reduceLeDiff, Nat.reduceLT, Nat.reduceMul]; with_reducible rfl) (by first | trivial | omega | (simp +contextual [inI64] <;> omega)) ?_
    refine wpA_reg [5] [useAt [8, 9] (f112_nil v hk hok hsz) (id rfl) (id rfl) cb112] rfl (by simp only [go_sem, Nat.reduceBEq, Nat.reduceAdd, Nat.reduceEqDiff, Nat.reduceLeDiff, Nat.reduceLT, Nat.reduceMul]; with_reducible rfl) (by first | trivial | omega | (simp +contextual [inI64] <;> omega)) ?_
    refine wpA_seq ?_
    refine wpA_reg [5, 17] [useAt [8, 14] (f117_walk (encB v)) (id rfl) (id rfl) cb117] rfl (by simp only [go_sem, Nat.reduceBEq, Nat.reduceAdd, Nat.reduceEqDiff, Nat.reduceLeDiff, Nat.reduceLT, Nat.reduceMul]; with_reducible rfl) (by first | trivial | omega | (simp +contextual [inI64] <;> omega)) ?_
    refine wpA_cond rfl (fun hd => ?_) (fun hd => ?_)
    · have h1 := hd
      refine wpA_reg [2, 3] [] rfl (by simp only [go_sem, Nat.reduceBEq, Nat.reduceAdd, Nat.reduceEqDiff, Nat.reduceLeDiff, Nat.reduceLT, Nat.reduceMul]; with_reducible rfl) (by first | trivial | omega | (simp +contextual [inI64] <;> omega)) ?_
      refine wpA_ret (tR ?_)
      refine endD (.inr rfl) (by simp only [go_sem, Nat.reduceBEq, Nat.reduceAdd, Nat.reduceEqDiff, Nat.reduceLeDiff, Nat.reduceLT, Nat.reduceMul]; with_reducible rfl) ?_
      simp only [go_sem, Nat.reduceBEq, Nat.reduceAdd, Nat.reduceEqDiff, Nat.reduceLeDiff, Nat.reduceLT, Nat.reduceMul]
      rw [putRes, if_neg (by have := of_decide_eq_true h1; omega), if_neg (by have := of_decide_eq_true h1; omega)]
      rfl
    · have h1 := hd
      refine wpA_skip ?_
      refine tN ?_
      refine wpA_reg [2, 3] [useAt [8, 14] (f118_walk (encB v) hpos hsz) (id rfl) (id rfl) cb118] rfl (by simp only [go_sem, Nat.reduceBEq, Nat.reduceAdd, Nat.reduceEqDiff, Nat.reduceLeDiff, Nat.reduceLT, Nat.reduceMul]; with_reducible rfl) (by first | trivial | omega | (simp +contextual [inI64] <;> omega)) ?_
      refine wpA_ret ?_
      refine endD (.inr rfl) (by simp only [go_sem, Nat.reduceBEq, Nat.reduceAdd, Nat.reduceEqDiff, Nat.reduceLeDiff, Nat.reduceLT, Nat.reduceMul]; with_reducible rfl) ?_
      simp only [go_sem, Nat.reduceBEq, Nat.reduceAdd, Nat.reduceEqDiff, Nat.reduceLeDiff, Nat.reduceLT, Nat.reduceMul]
      rw [putRes, if_pos (by have := of_decide_eq_false h1; omega), if_pos (by have := of_decide_eq_false h1; omega)]
      rfl

theorem cb109 : callB Tryz.prog 109 = true := by kernel_rfl
theorem f109_walk (v : Val) (ih : ∀ x ∈ kids v, fitV x → (encB x).size ≤ 140737488355328 → CallsA Tryz.prog 109 [.agg (valL x)] [] (.d (str (encB x))) []) (hok : fitV v) (hsz : (encB v).size ≤ 140737488355328) : CallsA Tryz.prog 109 [.agg (valL v)] [] (.d (str (encB v))) [] := by
  refine callsA_lenA (k := 0) (i := 3) rfl rfl fun hlen => ?_
  rw [encVals_len] at hlen
  refine callsW_of (fn := Tryz.f109) [.tmp 2] Tryz.func109 rfl rfl (by show 1 ≤ 44; omega) ?_
  refine wpA_reg [1] [] rfl (by simp only [go_sem, Nat.reduceBEq, Nat.reduceAdd, Nat.reduceEqDiff, Nat.reduceLeDiff, Nat.reduceLT, Nat.reduceMul]; with_reducible rfl) (by first | trivial | omega | (simp +contextual [inI64, size_append, size_one] <;> omega)) ?_
  refine wpA_seq ?_
  refine wpA_reg [1, 8] [] rfl (by simp only [go_sem, Nat.reduceBEq, Nat.reduceAdd, Nat.reduceEqDiff, Nat.reduceLeDiff, Nat.reduceLT, Nat.reduceMul]; with_reducible rfl) (by first | trivial | omega | (simp +contextual [inI64, size_append, size_one] <;> omega)) ?_
  refine wpA_cond rfl (fun hd => ?_) (fun hd => ?_)
  · have h0 := hd
    have hk := of_decide_eq_true hd
    have hE := encB_num v hk
    have hn := fitV_num hok hk
    have hB := congrArg ByteArray.size hE
    simp only [size_append, size_one] at hB
    refine wpA_reg [2] [usePure (f114_B (nOf v) hn.1 hn.2) rfl cb114] rfl (by simp only [go_sem, Nat.reduceBEq, Nat.reduceAdd, Nat.reduceEqDiff, Nat.reduceLeDiff, Nat.reduceLT, Nat.reduceMul]; with_reducible rfl) (by first | trivial | omega | (simp +contextual [inI64, size_append, size_one] <;> omega)) ?_
    refine wpA_ret (tR ?_)
    refine endD (.inr rfl) (by simp only [go_sem, Nat.reduceBEq, Nat.reduceAdd, Nat.reduceEqDiff, Nat.reduceLeDiff, Nat.reduceLT, Nat.reduceMul]; with_reducible rfl) ?_
    simp only [go_sem, Nat.reduceBEq, Nat.reduceAdd, Nat.reduceEqDiff, Nat.reduceLeDiff, Nat.reduceLT, Nat.reduceMul]
    rw [hE]
  · have h0 := hd
    refine wpA_skip ?_
    refine tN ?_
    refine wpA_seq ?_
    refine wpA_reg [1, 16] [] rfl (by simp only [go_sem, Nat.reduceBEq, Nat.reduceAdd, Nat.reduceEqDiff, Nat.reduceLeDiff, Nat.reduceLT, Nat.reduceMul]; with_reducible rfl) (by first | trivial | omega | (simp +contextual [inI64, size_append, size_one] <;> omega)) ?_
    refine wpA_cond rfl (fun hd => ?_) (fun hd => ?_)
    · have h1 := hd
      have hE := encB_text v (of_decide_eq_true hd)
      have hB := congrArg ByteArray.size hE
      simp only [size_append, size_one] at hB
      refine wpA_regD [[1], [17], [18], [19], [20], [1], [22], [21, 23], [24]] [2] [usePure (f115_B (sOf v).size (by omega) (by (try simp only [size_append, size_one]); omega)) rfl cb115] mx rfl (by simp only [go_sem, Nat.reduceBEq, Nat.reduceAdd, Nat.reduceEqDiff, Nat.reduceLeDiff, Nat.reduceLT, Nat.reduceMul]; with_reducible rfl) (by kernel_rfl) (by first | trivial | omega | (simp +contextual [inI64, size_append, size_one] <;> omega)) ?_
      refine wpA_ret (tR ?_)
      refine endD (.inr rfl) (by simp only [go_sem, Nat.reduceBEq, Nat.reduceAdd, Nat.reduceEqDiff, Nat.reduceLeDiff, Nat.reduceLT, Nat.reduceMul]; with_reducible rfl) ?_
      simp only [go_sem, Nat.reduceBEq, Nat.reduceAdd, Nat.reduceEqDiff, Nat.reduceLeDiff, Nat.reduceLT, Nat.reduceMul]
      rw [hE]
    · have h1 := hd
      have hk : kOf v = 3 := by have := kOf_cases v; have h0 := of_decide_eq_false h0; have h1 := of_decide_eq_false h1; omega
      have hE := encB_list v hk
      have hB := congrArg ByteArray.size hE
      simp only [size_append, size_one] at hB
      refine wpA_skip ?_
      refine tN ?_
      refine wpA_reg [1, 3] [] rfl (by simp only [go_sem, Nat.reduceBEq, Nat.reduceAdd, Nat.reduceEqDiff, Nat.reduceLeDiff, Nat.reduceLT, Nat.reduceMul]; with_reducible rfl) (by first | trivial | omega | (simp +contextual [inI64, size_append, size_one] <;> omega)) ?_
      refine wpA_seq ?_
      refine wpA_reg [3, 28, 29, 30] [] rfl (by simp only [go_sem, Nat.reduceBEq, Nat.reduceAdd, Nat.reduceEqDiff, Nat.reduceLeDiff, Nat.reduceLT, Nat.reduceMul]; with_reducible rfl) (by first | trivial | omega | (simp +contextual [inI64, size_append, size_one] <;> omega)) ?_
      refine wpA_block ?_
      refine wpA_loop (fun j : Nat => ⟨[(3, .own 0), (28, .d (vals (kids v))), (29, .d (i64 ((kids v).length))), (30, .d (i64 j))], enum [.inv (ByI 5 (⟨#[108]⟩ ++ encTo v j))] 0, 1⟩) (fun j => j ≤ (kids v).length) (fun j => (kids v).length - j) 0 (weak_of [9] trivial (by simp) (by simp only [go_sem, Int.natCast_zero, encTo_zero, append_none, bytesOf_108, Nat.reduceBEq, Nat.reduceAdd, Nat.reduceEqDiff, Nat.reduceLeDiff, Nat.reduceLT, Nat.reduceMul]) (by simp only [go_sem, Int.natCast_zero, encTo_zero, append_none, bytesOf_108, Nat.reduceBEq, Nat.reduceAdd, Nat.reduceEqDiff, Nat.reduceLeDiff, Nat.reduceLT, Nat.reduceMul])) (Nat.zero_le _) (fun j hj => ?_)
      refine wpA_reg [3, 28, 29, 30, 31] [] rfl (by simp only [go_sem, Nat.reduceBEq, Nat.reduceAdd, Nat.reduceEqDiff, Nat.reduceLeDiff, Nat.reduceLT, Nat.reduceMul]; with_reducible rfl) (by first | trivial | omega | (simp +contextual [inI64, size_append, size_one] <;> omega)) ?_
      refine wpA_seq ?_
      refine wpA_cond rfl (fun hc => ?_) (fun hc => ?_)
      · have hc : j < (kids v).length := by simpa using hc
        have hg := vals_getD (kids v) hc
        have e : ((j : Int) - 1).toNat = j - 1 := by omega
        have hg2 := vals_getD (kids v) (j := j - 1) (by omega)
        have hl := vals_len (kids v)
        have hle := encTo_le v hc
        refine wpA_skip ?_
        refine tN ?_
        refine wpA_seq ?_
        refine wpA_block ?_
        refine wpA_reg [3, 5, 28, 29, 30] [] rfl (by simp only [go_sem, hg, hg2, e, enc4, Nat.reduceBEq, Nat.reduceAdd, Nat.reduceEqDiff, Nat.reduceLeDiff, Nat.reduceLT, Nat.reduceMul]; with_reducible rfl) (by first | trivial | omega | (simp +contextual [inI64, hl, hc, size_append, size_one] <;> omega)) ?_
        refine wpA_region [3, 28, 29, 30] [usePure (ih (vAt (kids v) j) (vAt_mem hc) (fitV_at hok hc) (by (try simp only [size_append, size_one]); omega)) rfl cb109] rfl (by simp only [go_sem, hg, hg2, e, enc4, Nat.reduceBEq, Nat.reduceAdd, Nat.reduceEqDiff, Nat.reduceLeDiff, Nat.reduceLT, Nat.reduceMul]; with_reducible rfl) (by first | trivial | omega | (simp +contextual [inI64, hl, hc, size_append, size_one] <;> omega)) ?_
        refine bN (tN ?_)
        refine wpA_region [3, 28, 29, 30] [] rfl (by simp only [go_sem, hg, hg2, e, enc4, Nat.reduceBEq, Nat.reduceAdd, Nat.reduceEqDiff, Nat.reduceLeDiff, Nat.reduceLT, Nat.reduceMul]; with_reducible rfl) (by first | trivial | omega | (simp +contextual [inI64, hl, hc, size_append, size_one] <;> omega)) ?_
        refine tN ?_
        refine ⟨j + 1, hc, by omega, weak_of [9] trivial (by simp) (by simp only [go_sem, Int.natCast_add, Int.natCast_one, encTo_next v hc, ByteArray.append_assoc, Nat.reduceBEq, Nat.reduceAdd, Nat.reduceEqDiff, Nat.reduceLeDiff, Nat.reduceLT, Nat.reduceMul]) (by simp only [go_sem, Int.natCast_add, Int.natCast_one, encTo_next v hc, ByteArray.append_assoc, Nat.reduceBEq, Nat.reduceAdd, Nat.reduceEqDiff, Nat.reduceLeDiff, Nat.reduceLT, Nat.reduceMul])⟩
      · have hc : j = (kids v).length := by simp at hc; omega
        subst hc
        refine wpA_exit (tE (tE (bE ?_)))
        refine tN ?_
        refine wpA_reg [3] [] rfl (by simp only [go_sem, Nat.reduceBEq, Nat.reduceAdd, Nat.reduceEqDiff, Nat.reduceLeDiff, Nat.reduceLT, Nat.reduceMul]; with_reducible rfl) (by first | trivial | omega | (simp +contextual [inI64, size_append, size_one] <;> omega)) ?_
        refine wpA_reg [2] [] rfl (by simp only [go_sem, Nat.reduceBEq, Nat.reduceAdd, Nat.reduceEqDiff, Nat.reduceLeDiff, Nat.reduceLT, Nat.reduceMul]; with_reducible rfl) (by first | trivial | omega | (simp +contextual [inI64, size_append, size_one] <;> omega)) ?_
        refine wpA_ret ?_
        refine endD (.inr rfl) (by simp only [go_sem, Nat.reduceBEq, Nat.reduceAdd, Nat.reduceEqDiff, Nat.reduceLeDiff, Nat.reduceLT, Nat.reduceMul]; with_reducible rfl) ?_
        simp only [go_sem, Nat.reduceBEq, Nat.reduceAdd, Nat.reduceEqDiff, Nat.reduceLeDiff, Nat.reduceLT, Nat.reduceMul]
        rw [hE]

end Go.Abs
