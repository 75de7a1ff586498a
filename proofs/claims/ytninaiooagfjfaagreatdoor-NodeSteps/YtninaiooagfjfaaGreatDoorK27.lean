/- A value's bytes; walks: how they are written. No conditions. -/
import Derived.Test.YtninaiooagfjfaaGreatDoorK26
set_option linter.unusedVariables false
set_option linter.unusedSimpArgs false
set_option maxRecDepth 20000
namespace Go.Abs
open Go Go.RowKit Go.Proofs

def itoaB (n : Int) : ByteArray := ⟨(Lib.itoa n).toArray⟩
mutual
def encB : Val → ByteArray
  | .num n => ⟨#[105]⟩ ++ itoaB n ++ ⟨#[101]⟩
  | .text s => itoaB s.size ++ ⟨#[58]⟩ ++ s
  | .list l => ⟨#[108]⟩ ++ encBs l ++ ⟨#[101]⟩
def encBs : List Val → ByteArray
  | [] => ⟨#[]⟩
  | v :: r => encB v ++ encBs r
end
theorem append_none (s : ByteArray) : s ++ ⟨#[]⟩ = s := ByteArray.append_empty
theorem none_append (s : ByteArray) : (⟨#[]⟩ : ByteArray) ++ s = s := ByteArray.empty_append
theorem encBs_app (a b : List Val) : encBs (a ++ b) = encBs a ++ encBs b := by
  induction a with
  | nil => rw [List.nil_append, encBs, none_append]
  | cons x r ih => rw [List.cons_append, encBs, encBs, ih, ByteArray.append_assoc]
def encTo (v : Val) (j : Nat) : ByteArray := encBs ((kids v).take j)
theorem encTo_zero (v : Val) : encTo v 0 = ⟨#[]⟩ := rfl
theorem encTo_next (v : Val) {j : Nat} (h : j < (kids v).length) : encTo v (j + 1) = encTo v j ++ encB (vAt (kids v) j) := by
  have e : vAt (kids v) j = (kids v)[j] := by simp [vAt, List.getD, h]
  rw [encTo, List.take_succ_eq_append_getElem h, encBs_app, e]
  simp only [encBs, append_none, encTo]
theorem encB_num (v : Val) (h : kOf v = 1) : encB v = ⟨#[105]⟩ ++ itoaB (nOf v) ++ ⟨#[101]⟩ := by cases v <;> simp [kOf] at h ⊢; simp [encB, nOf]
theorem encB_text (v : Val) (h : kOf v = 2) : encB v = itoaB (sOf v).size ++ ⟨#[58]⟩ ++ sOf v := by cases v <;> simp [kOf] at h ⊢; simp [encB, sOf]
theorem encB_list (v : Val) (h : kOf v = 3) : encB v = ⟨#[108]⟩ ++ encTo v (kids v).length ++ ⟨#[101]⟩ := by cases v <;> simp [kOf] at h ⊢; simp [encB, encTo, kids]
theorem encTo_le (v : Val) {j : Nat} (h : j < (kids v).length) : (encTo v j).size + (encB (vAt (kids v) j)).size ≤ (encTo v (kids v).length).size := by
  have h1 : encBs (kids v) = encBs ((kids v).take (j + 1)) ++ encBs ((kids v).drop (j + 1)) := by rw [← encBs_app, List.take_append_drop]
  have h2 := encTo_next v h
  have h3 : encTo v (kids v).length = encBs (kids v) := by rw [encTo, List.take_length]
  rw [h3, h1]
  have h4 : encBs ((kids v).take (j + 1)) = encTo v (j + 1) := rfl
  rw [h4, h2, size_append, size_append]
  omega
mutual
/-- Are all numbers such as an int64 may be? -/
def fitV : Val → Prop
  | .num n => -9223372036854775808 ≤ n ∧ n ≤ 9223372036854775807
  | .text _ => True
  | .list l => fitVs l
def fitVs : List Val → Prop
  | [] => True
  | v :: r => fitV v ∧ fitVs r
end
theorem fitVs_mem : ∀ {l : List Val}, fitVs l → ∀ x ∈ l, fitV x
  | [], _, x, h => by simp at h
  | v :: r, h, x, hx => by
    rcases List.mem_cons.1 hx with rfl | hx
    · exact h.1
    · exact fitVs_mem h.2 x hx
theorem fitV_at {v : Val} (h : fitV v) {j : Nat} (hj : j < (kids v).length) : fitV (vAt (kids v) j) := by
  cases v with
  | list l => exact fitVs_mem h _ (vAt_mem hj)
  | _ => simp [kids] at hj
theorem fitV_num {v : Val} (h : fitV v) (hk : kOf v = 1) : -9223372036854775808 ≤ nOf v ∧ nOf v ≤ 9223372036854775807 := by cases v <;> simp [kOf] at hk; exact h
theorem f114_B (n : Int) (h0 : -9223372036854775808 ≤ n) (h1 : n ≤ 9223372036854775807) : CallsA Tryz.prog 114 [.d (i64 n), .d (i64 10)] [] (.d (str (itoaB n))) [] := f114_walk n h0 h1
theorem f115_B (n : Int) (h0 : -9223372036854775808 ≤ n) (h1 : n ≤ 9223372036854775807) : CallsA Tryz.prog 115 [.d (i64 n)] [] (.d (str (itoaB n))) [] := f115_walk n h0 h1
theorem cb114 : callB Tryz.prog 114 = true := by kernel_rfl
theorem cb115 : callB Tryz.prog 115 = true := by kernel_rfl
theorem f116_l (s : ByteArray) (hs : s.size + 1 ≤ 140737488355328) : CallsA Tryz.prog 116 [.ptr 0 0, .d (.lit (.int .u8 108))] [.var 138 [.ptr 0 0, .own 1], .inv (ByI 5 s)] (.d (.lit .nilIface)) [.var 138 [.ptr 0 0, .own 2], .dead, .inv (ByI 5 (s ++ ⟨#[108]⟩))] := f116_walk s 108 hs
theorem f116_e (s : ByteArray) (hs : s.size + 1 ≤ 140737488355328) : CallsA Tryz.prog 116 [.ptr 0 0, .d (.lit (.int .u8 101))] [.var 138 [.ptr 0 0, .own 1], .inv (ByI 5 s)] (.d (.lit .nilIface)) [.var 138 [.ptr 0 0, .own 2], .dead, .inv (ByI 5 (s ++ ⟨#[101]⟩))] := f116_walk s 101 hs
theorem f116_n : CallsA Tryz.prog 116 [.ptr 0 0, .d (.lit (.int .u8 108))] [.var 138 [nilP, nilS]] (.d (.lit .nilIface)) [.var 138 [.ptr 0 0, .own 1], .inv (ByI 5 ⟨#[108]⟩)] := f116_nil 108
theorem cb112 : callB Tryz.prog 112 = true := by kernel_rfl
theorem f112_walk (v : Val) (ih : ∀ x ∈ kids v, ∀ s : ByteArray, fitV x → s.size + (encB x).size ≤ 140737488355328 → CallsA Tryz.prog 112 [.agg (valL x), .ptr 0 0, .ptr 1 0] [.var 138 [.ptr 0 0, .own 2], .var 139 [.fn 112 [.ptr 0 0, .ptr 1 0]], .inv (ByI 5 s)] (.tup []) [.var 138 [.ptr 0 0, .own 3], .var 139 [.fn 112 [.ptr 0 0, .ptr 1 0]], .dead, .inv (ByI 5 (s ++ encB x))]) (s : ByteArray) (hok : fitV v) (hsz : s.size + (encB v).size ≤ 140737488355328) : CallsA Tryz.prog 112 [.agg (valL v), .ptr 0 0, .ptr 1 0] [.var 138 [.ptr 0 0, .own 2], .var 139 [.fn 112 [.ptr 0 0, .ptr 1 0]], .inv (ByI 5 s)] (.tup []) [.var 138 [.ptr 0 0, .own 3], .var 139 [.fn 112 [.ptr 0 0, .ptr 1 0]], .dead, .inv (ByI 5 (s ++ encB v))] := by
  refine callsA_lenA (k := 0) (i := 3) rfl rfl fun hlen => ?_
  rw [encVals_len] at hlen
  refine callsW_of (fn := Tryz.f112) [] Tryz.func112 rfl rfl (by show 3 ≤ 40; omega) ?_
  refine wpA_reg [1, 2, 3] [] rfl (by simp only [go_sem, Nat.reduceBEq, Nat.reduceAdd, Nat.reduceEqDiff, Nat.reduceLeDiff, Nat.reduceLT, Nat.reduceMul]; with_reducible rfl) (by first | trivial | omega | (simp +contextual [inI64, size_append, size_one] <;> omega)) ?_
  refine wpA_reg [1, 2, 3, 7] [] rfl (by simp only [go_sem, Nat.reduceBEq, Nat.reduceAdd, Nat.reduceEqDiff, Nat.reduceLeDiff, Nat.reduceLT, Nat.reduceMul]; with_reducible rfl) (by first | trivial | omega | (simp +contextual [inI64, size_append, size_one] <;> omega)) ?_
  refine wpA_block ?_
  refine wpA_reg [1, 2, 3, 7, 21] [] rfl (by simp only [go_sem, Nat.reduceBEq, Nat.reduceAdd, Nat.reduceEqDiff, Nat.reduceLeDiff, Nat.reduceLT, Nat.reduceMul]; with_reducible rfl) (by first | trivial | omega | (simp +contextual [inI64, size_append, size_one] <;> omega)) ?_
  refine wpA_cond rfl (fun hd => ?_) (fun hd => ?_)
  · have h0 := hd
    have hk := of_decide_eq_true hd
    have hE := encB_num v hk
    have hn := fitV_num hok hk
    have hB := congrArg ByteArray.size hE
    simp only [size_append, size_one] at hB
    refine wpA_region [] [usePure (f114_B (nOf v) hn.1 hn.2) rfl cb114, useAt [0, 2] (f113_walk (s) (⟨#[105]⟩ ++ (itoaB (nOf v)) ++ (⟨#[101]⟩)) (by (try simp only [size_append, size_one]); omega)) (id rfl) (id rfl) cb113] rfl (by simp only [go_sem, Nat.reduceBEq, Nat.reduceAdd, Nat.reduceEqDiff, Nat.reduceLeDiff, Nat.reduceLT, Nat.reduceMul]; with_reducible rfl) (by first | trivial | omega | (simp +contextual [inI64, size_append, size_one] <;> omega)) ?_
    refine bN ?_
    refine endB [0, 1, 2, 13] (.inl rfl) (by simp only [go_sem, Nat.reduceBEq, Nat.reduceAdd, Nat.reduceEqDiff, Nat.reduceLeDiff, Nat.reduceLT, Nat.reduceMul]; with_reducible rfl) (by simp [firsts]) (by simp) (by simp only [go_sem, hE, ByteArray.append_assoc, Nat.reduceBEq, Nat.reduceAdd, Nat.reduceEqDiff, Nat.reduceLeDiff, Nat.reduceLT, Nat.reduceMul]) ?_
    simp only [go_sem]
  · have h0 := hd
    refine wpA_reg [1, 2, 3, 29] [] rfl (by simp only [go_sem, Nat.reduceBEq, Nat.reduceAdd, Nat.reduceEqDiff, Nat.reduceLeDiff, Nat.reduceLT, Nat.reduceMul]; with_reducible rfl) (by first | trivial | omega | (simp +contextual [inI64, size_append, size_one] <;> omega)) ?_
    refine wpA_cond rfl (fun hd => ?_) (fun hd => ?_)
    · have h1 := hd
      have hE := encB_text v (of_decide_eq_true hd)
      have hB := congrArg ByteArray.size hE
      simp only [size_append, size_one] at hB
      refine wpA_drawn [[3], [31], [32], [33], [34], [3], [36], [35, 37], [1, 38]] [] [usePure (f115_B (sOf v).size (by omega) (by (try simp only [size_append, size_one]); omega)) rfl cb115, useAt [0, 2] (f113_walk (s) (itoaB (sOf v).size ++ (⟨#[58]⟩) ++ (sOf v)) (by (try simp only [size_append, size_one]); omega)) (id rfl) (id rfl) cb113] mx rfl (by simp only [go_sem, Nat.reduceBEq, Nat.reduceAdd, Nat.reduceEqDiff, Nat.reduceLeDiff, Nat.reduceLT, Nat.reduceMul]; with_reducible rfl) (by kernel_rfl) (by first | trivial | omega | (simp +contextual [inI64, size_append, size_one] <;> omega)) ?_
      refine bN ?_
      refine endB [0, 1, 2, 18] (.inl rfl) (by simp only [go_sem, Nat.reduceBEq, Nat.reduceAdd, Nat.reduceEqDiff, Nat.reduceLeDiff, Nat.reduceLT, Nat.reduceMul]; with_reducible rfl) (by simp [firsts]) (by simp) (by simp only [go_sem, hE, ByteArray.append_assoc, Nat.reduceBEq, Nat.reduceAdd, Nat.reduceEqDiff, Nat.reduceLeDiff, Nat.reduceLT, Nat.reduceMul]) ?_
      simp only [go_sem]
    · have h1 := hd
      have hk : kOf v = 3 := by have := kOf_cases v; have h0 := of_decide_eq_false h0; have h1 := of_decide_eq_false h1; omega
      have hE := encB_list v hk
      have hB := congrArg ByteArray.size hE
      simp only [size_append, size_one] at hB
      refine wpA_reg [1, 2, 3] [useAt [0, 2] (f116_l (s) (by (try simp only [size_append, size_one]); omega)) (id rfl) (id rfl) cb116] rfl (by simp only [go_sem, Nat.reduceBEq, Nat.reduceAdd, Nat.reduceEqDiff, Nat.reduceLeDiff, Nat.reduceLT, Nat.reduceMul]; with_reducible rfl) (by first | trivial | omega | (simp +contextual [inI64, size_append, size_one] <;> omega)) ?_
      refine wpA_seq ?_
      refine wpA_reg [1, 2, 10, 11, 12] [] rfl (by simp only [go_sem, Nat.reduceBEq, Nat.reduceAdd, Nat.reduceEqDiff, Nat.reduceLeDiff, Nat.reduceLT, Nat.reduceMul]; with_reducible rfl) (by first | trivial | omega | (simp +contextual [inI64, size_append, size_one] <;> omega)) ?_
      refine wpA_block ?_
      refine wpA_loop (fun j : Nat => ⟨[(1, .ptr 0 0), (2, .ptr 1 0), (10, .d (vals (kids v))), (11, .d (i64 ((kids v).length))), (12, .d (i64 j))], enum [.var 138 [.ptr 0 0, .own 3], .var 139 [.fn 112 [.ptr 0 0, .ptr 1 0]], .dead, .inv (ByI 5 (s ++ ⟨#[108]⟩ ++ encTo v j))] 0, 4⟩) (fun j => j ≤ (kids v).length) (fun j => (kids v).length - j) 0 (weak_of [0, 1, 2, 10] (by simp [firsts]) (by simp) (by simp only [go_sem, Int.natCast_zero, encTo_zero, append_none, Nat.reduceBEq, Nat.reduceAdd, Nat.reduceEqDiff, Nat.reduceLeDiff, Nat.reduceLT, Nat.reduceMul]) (by simp only [go_sem, Int.natCast_zero, encTo_zero, append_none, Nat.reduceBEq, Nat.reduceAdd, Nat.reduceEqDiff, Nat.reduceLeDiff, Nat.reduceLT, Nat.reduceMul])) (Nat.zero_le _) (fun j hj => ?_)
      refine wpA_reg [1, 2, 10, 11, 12, 13] [] rfl (by simp only [go_sem, Nat.reduceBEq, Nat.reduceAdd, Nat.reduceEqDiff, Nat.reduceLeDiff, Nat.reduceLT, Nat.reduceMul]; with_reducible rfl) (by first | trivial | omega | (simp +contextual [inI64, size_append, size_one] <;> omega)) ?_
      refine wpA_seq ?_
      refine wpA_cond rfl (fun hc => ?_) (fun hc => ?_)
      · have hc : j < (kids v).length := by simpa using hc
        have hg := vals_getD (kids v) hc
        have e : ((j : Int) - 1).toNat = j - 1 := by omega
        have hg2 := vals_getD (kids v) (j := j - 1) (by omega)
        have hl := vals_len (kids v)
        have hle := encTo_le v hc
        refine wpA_skip ?_
        refine tN ?_
        refine wpA_seq ?_
        refine wpA_block ?_
        refine wpA_reg [1, 2, 5, 10, 11, 12] [] rfl (by simp only [go_sem, hg, hg2, e, enc4, Nat.reduceBEq, Nat.reduceAdd, Nat.reduceEqDiff, Nat.reduceLeDiff, Nat.reduceLT, Nat.reduceMul]; with_reducible rfl) (by first | trivial | omega | (simp +contextual [inI64, hl, hc, size_append, size_one] <;> omega)) ?_
        refine wpA_region [1, 2, 10, 11, 12] [useAt [0, 1, 3] (ih (vAt (kids v) j) (vAt_mem hc) (s ++ ⟨#[108]⟩ ++ encTo v j) (fitV_at hok hc) (by (try simp only [size_append, size_one]); omega)) (id rfl) (id rfl) cb112] rfl (by simp only [go_sem, hg, hg2, e, enc4, Nat.reduceBEq, Nat.reduceAdd, Nat.reduceEqDiff, Nat.reduceLeDiff, Nat.reduceLT, Nat.reduceMul]; with_reducible rfl) (by first | trivial | omega | (simp +contextual [inI64, hl, hc, size_append, size_one] <;> omega)) ?_
        refine bN (tN ?_)
        refine wpA_region [1, 2, 10, 11, 12] [] rfl (by simp only [go_sem, hg, hg2, e, enc4, Nat.reduceBEq, Nat.reduceAdd, Nat.reduceEqDiff, Nat.reduceLeDiff, Nat.reduceLT, Nat.reduceMul]; with_reducible rfl) (by first | trivial | omega | (simp +contextual [inI64, hl, hc, size_append, size_one] <;> omega)) ?_
        refine tN ?_
        refine ⟨j + 1, hc, by omega, weak_of [0, 1, 2, 11] (by simp [firsts]) (by simp) (by simp only [go_sem, Int.natCast_add, Int.natCast_one, encTo_next v hc, ByteArray.append_assoc, Nat.reduceBEq, Nat.reduceAdd, Nat.reduceEqDiff, Nat.reduceLeDiff, Nat.reduceLT, Nat.reduceMul]) (by simp only [go_sem, Int.natCast_add, Int.natCast_one, encTo_next v hc, ByteArray.append_assoc, Nat.reduceBEq, Nat.reduceAdd, Nat.reduceEqDiff, Nat.reduceLeDiff, Nat.reduceLT, Nat.reduceMul])⟩
      · have hc : j = (kids v).length := by simp at hc; omega
        subst hc
        refine wpA_exit (tE (tE (bE ?_)))
        refine tN ?_
        refine wpA_region [] [useAt [0, 3] (f116_e (s ++ ⟨#[108]⟩ ++ encTo v (kids v).length) (by (try simp only [size_append, size_one]); omega)) (id rfl) (id rfl) cb116] rfl (by simp only [go_sem, Nat.reduceBEq, Nat.reduceAdd, Nat.reduceEqDiff, Nat.reduceLeDiff, Nat.reduceLT, Nat.reduceMul]; with_reducible rfl) (by first | trivial | omega | (simp +contextual [inI64, size_append, size_one] <;> omega)) ?_
        refine bN ?_
        refine endB [0, 1, 2, 5] (.inl rfl) (by simp only [go_sem, Nat.reduceBEq, Nat.reduceAdd, Nat.reduceEqDiff, Nat.reduceLeDiff, Nat.reduceLT, Nat.reduceMul]; with_reducible rfl) (by simp [firsts]) (by simp) (by simp only [go_sem, hE, ByteArray.append_assoc, Nat.reduceBEq, Nat.reduceAdd, Nat.reduceEqDiff, Nat.reduceLeDiff, Nat.reduceLT, Nat.reduceMul]) ?_
        simp only [go_sem]

end Go.Abs
