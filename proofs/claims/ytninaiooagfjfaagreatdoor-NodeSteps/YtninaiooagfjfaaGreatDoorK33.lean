/- Walks: a text of voters is read. No conditions. -/
import Derived.Test.YtninaiooagfjfaaGreatDoorK32
set_option linter.unusedVariables false
set_option linter.unusedSimpArgs false
set_option maxRecDepth 20000
namespace Go.Abs
open Go Go.RowKit Go.Proofs

def sAt (l : List ByteArray) (j : Nat) : ByteArray := l.getD j ⟨#[]⟩
theorem single_def (l : List ByteArray) (j : Nat) : single l j = !(decide (((sAt l j).size : Int) ≠ 1)) := rfl
theorem strs_getD (l : List ByteArray) {j : Nat} (h : j < l.length) : (l.map encS).getD j [] = encS (sAt l j) := by simp [List.getD, h, sAt]
theorem strs_len (l : List ByteArray) : ∀ row ∈ l.map encS, row.length = 1 := by simp [encS]
theorem digs_next {l : List ByteArray} {j : Nat} (h : j < l.length) : ((l.take (j + 1)).map dgB).map encI = ((l.take j).map dgB).map encI ++ [[.lit (.int .i64 ((((sAt l j).get! 0).toNat : Int) - 48))]] := by
  have e : sAt l j = l[j] := by simp [sAt, List.getD, h]
  rw [List.take_succ_eq_append_getElem h, List.map_append, List.map_append, e]; rfl
theorem cb59 : callB Tryz.prog 59 = true := by kernel_rfl
def parseV20 (s : ByteArray) : V := .tup [.d (ints ((parse20 s).getD [])), .d (i64 (if (parse20 s).isSome = true then 0 else 160))]
theorem digT_zero (s : ByteArray) : digT s 0 = [] := rfl
theorem digT_even {s : ByteArray} {j : Nat} (h : j < s.size) (he : (j : Int) % 2 = 0) : digT s (j + 1) = digT s j ++ [((s.get! j).toNat : Int) - 48] := by
  have hl : s.data.toList.length = s.size := Array.length_toList
  have h9 := get_at h
  rw [digT, List.take_succ_eq_append_getElem (by omega), evens_snoc, if_pos (by rw [List.length_take]; omega), List.map_append]
  have : s.data.toList[j]'(by omega) = s.get! j := by rw [List.getElem?_eq_getElem (by omega)] at h9; exact Option.some.inj h9
  rw [this]; rfl
theorem digT_odd {s : ByteArray} {j : Nat} (h : j < s.size) (he : ¬ (j : Int) % 2 = 0) : digT s (j + 1) = digT s j := by
  have hl : s.data.toList.length = s.size := Array.length_toList
  rw [digT, List.take_succ_eq_append_getElem (by omega), evens_snoc, if_neg (by rw [List.length_take]; omega)]; rfl
theorem evens_len : ∀ l : List UInt8, (evens l).length ≤ l.length
  | [] => Nat.le_refl _
  | [c] => Nat.le_refl _
  | c :: d :: r => by have := evens_len r; simp only [evens, List.length_cons]; omega
theorem digT_len (s : ByteArray) (j : Nat) : (digT s j).length ≤ s.size := by
  have hl : s.data.toList.length = s.size := Array.length_toList
  have := evens_len (s.data.toList.take j)
  rw [List.length_take] at this
  rw [digT, List.length_map]; omega
def l39 (s : ByteArray) : List Int := if head39 s = false ∧ allTo (okC s) s.size = true then digT s s.size else []
def b39 (s : ByteArray) : Bool := !(head39 s) && (allTo (okC s) s.size && right (digT s s.size))
theorem cb20 : callB Tryz.prog 20 = true := by kernel_rfl
theorem f20_walk (s : ByteArray) : CallsA Tryz.prog 20 [.d (str s)] [] (parseV20 s) [] := by
  refine callsW_of (fn := Tryz.f20) [.tmp 2, .tmp 3] Tryz.func20 rfl rfl (by show 1 ≤ 32; omega) ?_
  refine wpA_reg [0] [] rfl (by simp only [go_sem, Nat.reduceBEq, Nat.reduceAdd, Nat.reduceEqDiff, Nat.reduceLeDiff, Nat.reduceLT, Nat.reduceMul]; with_reducible rfl) (by first | trivial | omega | (simp +contextual [inI64] <;> omega)) ?_
  refine wpA_reg [0, 4] [] rfl (by simp only [go_sem, Nat.reduceBEq, Nat.reduceAdd, Nat.reduceEqDiff, Nat.reduceLeDiff, Nat.reduceLT, Nat.reduceMul]; with_reducible rfl) (by first | trivial | omega | (simp +contextual [inI64] <;> omega)) ?_
  refine wpA_seq ?_
  refine wpA_reg [0, 4, 9] [] rfl (by simp only [go_sem, Nat.reduceBEq, Nat.reduceAdd, Nat.reduceEqDiff, Nat.reduceLeDiff, Nat.reduceLT, Nat.reduceMul]; with_reducible rfl) (by first | trivial | omega | (simp +contextual [inI64] <;> omega)) ?_
  refine wpA_cond rfl (fun hd => ?_) (fun hd => ?_)
  · have h0 := hd
    refine wpA_reg [2, 3] [] rfl (by simp only [go_sem, Nat.reduceBEq, Nat.reduceAdd, Nat.reduceEqDiff, Nat.reduceLeDiff, Nat.reduceLT, Nat.reduceMul]; with_reducible rfl) (by first | trivial | omega | (simp +contextual [inI64] <;> omega)) ?_
    refine wpA_ret (tR ?_)
    refine endL (l := [.d (ints []), .d (i64 160)]) [] (.inr rfl) (by simp only [go_sem, Nat.reduceBEq, Nat.reduceAdd, Nat.reduceEqDiff, Nat.reduceLeDiff, Nat.reduceLT, Nat.reduceMul]; with_reducible rfl) trivial (by simp) trivial (by simp [snapL, snap, leL, le, leD, ints, i64, boo]) ?_
    have e : parse20 s = none := by rw [parse20, if_pos (of_decide_eq_true hd)]
    rw [parseV20, e]; rfl
  · have h0 := hd
    have hs14 : s.size ≤ 14 := by have := of_decide_eq_false hd; omega
    have hmx : (splitL s sepB).length ≤ maxLen := by
      have := parts_max (s := s) hs14
      unfold maxLen; omega
    have hmx15 := parts_max (s := s) hs14
    refine wpA_skip ?_
    refine tN ?_
    refine wpA_seq ?_
    refine wpA_reg [4, 11, 12, 13] [useAt [] (f59_walk s sepB (by omega) (by decide) (parts_len s) hmx) (id rfl) (id rfl) cb59] rfl (by simp only [go_sem, Nat.reduceBEq, Nat.reduceAdd, Nat.reduceEqDiff, Nat.reduceLeDiff, Nat.reduceLT, Nat.reduceMul]; with_reducible rfl) (by first | trivial | omega | (simp +contextual [inI64, sepB] <;> omega)) ?_
    refine wpA_block ?_
    refine wpA_loop (fun j : Nat => ⟨[(4, .own 0), (11, .own 1), (12, .d (i64 ((splitL s sepB).length))), (13, .d (i64 j))], enum [.row 3 1 ((((splitL s sepB).take j).map dgB).map encI), .row 9 1 ((splitL s sepB).map encS)] 0, 2⟩) (fun j => j ≤ (splitL s sepB).length ∧ allTo (single (splitL s sepB)) j = true) (fun j => (splitL s sepB).length - j) 0 ((weak_own (k := 4) (e := 3) (sz := 1) rfl).trans (weak_of [10, 7] trivial (by simp) (by simp only [go_sem, Int.natCast_zero, List.take_zero, List.map_nil, Nat.reduceBEq, Nat.reduceAdd, Nat.reduceEqDiff, Nat.reduceLeDiff, Nat.reduceLT, Nat.reduceMul]) (by simp only [go_sem, Int.natCast_zero, List.take_zero, List.map_nil, Nat.reduceBEq, Nat.reduceAdd, Nat.reduceEqDiff, Nat.reduceLeDiff, Nat.reduceLT, Nat.reduceMul]))) ⟨Nat.zero_le _, rfl⟩ (fun j hj => ?_)
    obtain ⟨hj, hjv⟩ := hj
    refine wpA_reg [4, 11, 12, 13, 14] [] rfl (by simp only [go_sem, Nat.reduceBEq, Nat.reduceAdd, Nat.reduceEqDiff, Nat.reduceLeDiff, Nat.reduceLT, Nat.reduceMul]; with_reducible rfl) (by first | trivial | omega | (simp +contextual [inI64] <;> omega)) ?_
    refine wpA_seq ?_
    refine wpA_cond rfl (fun hc => ?_) (fun hc => ?_)
    · have hc : j < (splitL s sepB).length := by simpa using hc
      have hg := strs_getD (splitL s sepB) hc
      have e : ((j : Int) - 1).toNat = j - 1 := by omega
      have hg2 := strs_getD (splitL s sepB) (j := j - 1) (by omega)
      have hl := strs_len (splitL s sepB)
      have hu := UInt8.toNat_lt ((sAt (splitL s sepB) j).get! 0)
      refine wpA_skip ?_
      refine tN ?_
      refine wpA_seq ?_
      refine wpA_block ?_
      refine wpA_reg [4, 6, 11, 12, 13] [] rfl (by simp only [go_sem, hg, hg2, e, encS, Int.toNat_zero, Nat.reduceBEq, Nat.reduceAdd, Nat.reduceEqDiff, Nat.reduceLeDiff, Nat.reduceLT, Nat.reduceMul]; with_reducible rfl) (by first | trivial | omega | (simp +contextual [inI64, hl, hc, hu] <;> omega)) ?_
      refine wpA_seq ?_
      refine wpA_reg [4, 6, 11, 12, 13, 19] [] rfl (by simp only [go_sem, hg, hg2, e, encS, Int.toNat_zero, Nat.reduceBEq, Nat.reduceAdd, Nat.reduceEqDiff, Nat.reduceLeDiff, Nat.reduceLT, Nat.reduceMul]; with_reducible rfl) (by first | trivial | omega | (simp +contextual [inI64, hl, hc, hu] <;> omega)) ?_
      refine wpA_cond rfl (fun hd => ?_) (fun hd => ?_)
      · have h1 := hd
        refine wpA_reg [2, 3] [] rfl (by simp only [go_sem, hg, hg2, e, encS, Int.toNat_zero, Nat.reduceBEq, Nat.reduceAdd, Nat.reduceEqDiff, Nat.reduceLeDiff, Nat.reduceLT, Nat.reduceMul]; with_reducible rfl) (by first | trivial | omega | (simp +contextual [inI64, hl, hc, hu] <;> omega)) ?_
        refine wpA_ret (tR (bR (tR (tR (bR (tR ?_))))))
        refine endL (l := [.d (ints []), .d (i64 160)]) [] (.inr rfl) (by simp only [go_sem, Nat.reduceBEq, Nat.reduceAdd, Nat.reduceEqDiff, Nat.reduceLeDiff, Nat.reduceLT, Nat.reduceMul]; with_reducible rfl) trivial (by simp) trivial (by simp [snapL, snap, leL, le, leD, ints, i64, boo]) ?_
        have e : parse20 s = none := by rw [parse20, if_neg (of_decide_eq_false h0), all_no hc (by rw [single_def, hd]; rfl)]; rfl
        rw [parseV20, e]; rfl
      · have h1 := hd
        have hz : (sAt (splitL s sepB) j).size = 1 := by have := of_decide_eq_false hd; omega
        refine wpA_skip ?_
        refine tN ?_
        refine wpA_region [4, 11, 12, 13] [] rfl (by simp only [go_sem, hg, hg2, e, encS, Int.toNat_zero, Nat.reduceBEq, Nat.reduceAdd, Nat.reduceEqDiff, Nat.reduceLeDiff, Nat.reduceLT, Nat.reduceMul]; with_reducible rfl) (by first | trivial | omega | (simp +contextual [inI64, hl, hc, hu] <;> omega)) ?_
        refine bN (tN ?_)
        refine wpA_region [4, 11, 12, 13] [] rfl (by simp only [go_sem, hg, hg2, e, encS, Int.toNat_zero, Nat.reduceBEq, Nat.reduceAdd, Nat.reduceEqDiff, Nat.reduceLeDiff, Nat.reduceLT, Nat.reduceMul]; with_reducible rfl) (by first | trivial | omega | (simp +contextual [inI64, hl, hc, hu] <;> omega)) ?_
        refine tN ?_
        refine ⟨j + 1, ⟨hc, ?_⟩, by omega, weak_of [15, 1] trivial (by simp) (by simp only [go_sem, Int.natCast_add, Int.natCast_one, digs_next hc, Nat.reduceBEq, Nat.reduceAdd, Nat.reduceEqDiff, Nat.reduceLeDiff, Nat.reduceLT, Nat.reduceMul]) (by simp only [go_sem, Int.natCast_add, Int.natCast_one, digs_next hc, Nat.reduceBEq, Nat.reduceAdd, Nat.reduceEqDiff, Nat.reduceLeDiff, Nat.reduceLT, Nat.reduceMul])⟩
        exact all_step hjv (by rw [single_def, hd]; rfl)
    · have hc : j = (splitL s sepB).length := by simp at hc; omega
      subst hc
      rw [List.take_length]
      have hall0 := hjv
      refine wpA_exit (tE (tE (bE ?_)))
      refine tN ?_
      refine wpA_seq ?_
      refine wpA_reg [4, 30] [usePure (f56_walk ((splitL s sepB).map dgB)) rfl cb56] rfl (by simp only [go_sem, Nat.reduceBEq, Nat.reduceAdd, Nat.reduceEqDiff, Nat.reduceLeDiff, Nat.reduceLT, Nat.reduceMul]; with_reducible rfl) (by first | trivial | omega | (simp +contextual [inI64] <;> omega)) ?_
      refine wpA_cond rfl (fun hd => ?_) (fun hd => ?_)
      · have h1 := hd
        refine wpA_reg [2, 3] [] rfl (by simp only [go_sem, Nat.reduceBEq, Nat.reduceAdd, Nat.reduceEqDiff, Nat.reduceLeDiff, Nat.reduceLT, Nat.reduceMul]; with_reducible rfl) (by first | trivial | omega | (simp +contextual [inI64] <;> omega)) ?_
        refine wpA_ret (tR ?_)
        refine endL (l := [.d (ints []), .d (i64 160)]) [] (.inr rfl) (by simp only [go_sem, Nat.reduceBEq, Nat.reduceAdd, Nat.reduceEqDiff, Nat.reduceLeDiff, Nat.reduceLT, Nat.reduceMul]; with_reducible rfl) trivial (by simp) trivial (by simp [snapL, snap, leL, le, leD, ints, i64, boo]) ?_
        have e : parse20 s = none := by have hd := hd; rw [parse20, if_neg (of_decide_eq_false h0), if_pos hall0]; simp at hd; simp [hd]
        rw [parseV20, e]; rfl
      · have h1 := hd
        refine wpA_skip ?_
        refine tN ?_
        refine wpA_reg [2, 3] [] rfl (by simp only [go_sem, Nat.reduceBEq, Nat.reduceAdd, Nat.reduceEqDiff, Nat.reduceLeDiff, Nat.reduceLT, Nat.reduceMul]; with_reducible rfl) (by first | trivial | omega | (simp +contextual [inI64] <;> omega)) ?_
        refine wpA_ret ?_
        refine endD (.inr rfl) (by simp only [go_sem, Nat.reduceBEq, Nat.reduceAdd, Nat.reduceEqDiff, Nat.reduceLeDiff, Nat.reduceLT, Nat.reduceMul]; with_reducible rfl) ?_
        simp only [go_sem, Nat.reduceBEq, Nat.reduceAdd, Nat.reduceEqDiff, Nat.reduceLeDiff, Nat.reduceLT, Nat.reduceMul]
        have e : parse20 s = some ((splitL s sepB).map dgB) := by have hd := hd; rw [parse20, if_neg (of_decide_eq_false h0), if_pos hall0]; simp at hd; simp [hd]
        rw [parseV20, e]; rfl

theorem cb39 : callB Tryz.prog 39 = true := by kernel_rfl
theorem f39_walk (s : ByteArray) (hsz : s.size ≤ 9000000000000000000) : CallsA Tryz.prog 39 [.d (str s)] [] (.tup [.d (ints (l39 s)), .d (boo (b39 s))]) [] := by
  refine callsW_of (fn := Tryz.f39) [.tmp 2, .tmp 3] Tryz.func39 rfl rfl (by show 1 ≤ 45; omega) ?_
  refine wpA_reg [0] [] rfl (by simp only [go_sem, Nat.reduceBEq, Nat.reduceAdd, Nat.reduceEqDiff, Nat.reduceLeDiff, Nat.reduceLT, Nat.reduceMul]; with_reducible rfl) (by first | trivial | omega | (simp +contextual [inI64] <;> omega)) ?_
  refine wpA_reg [0, 4] [] rfl (by simp only [go_sem, Nat.reduceBEq, Nat.reduceAdd, Nat.reduceEqDiff, Nat.reduceLeDiff, Nat.reduceLT, Nat.reduceMul]; with_reducible rfl) (by first | trivial | omega | (simp +contextual [inI64] <;> omega)) ?_
  refine wpA_seq ?_
  refine wpA_reg [0, 4, 15] [] rfl (by simp only [go_sem, Nat.reduceBEq, Nat.reduceAdd, Nat.reduceEqDiff, Nat.reduceLeDiff, Nat.reduceLT, Nat.reduceMul]; with_reducible rfl) (by first | trivial | omega | (simp +contextual [inI64] <;> omega)) ?_
  refine wpA_cond rfl (fun hd => ?_) (fun hd => ?_)
  · have h0 := hd
    refine wpA_reg [2, 3] [] rfl (by simp only [go_sem, Nat.reduceBEq, Nat.reduceAdd, Nat.reduceEqDiff, Nat.reduceLeDiff, Nat.reduceLT, Nat.reduceMul]; with_reducible rfl) (by first | trivial | omega | (simp +contextual [inI64] <;> omega)) ?_
    refine wpA_ret (tR ?_)
    refine endL (l := [.d (ints []), .d (boo false)]) [] (.inr rfl) (by simp only [go_sem, Nat.reduceBEq, Nat.reduceAdd, Nat.reduceEqDiff, Nat.reduceLeDiff, Nat.reduceLT, Nat.reduceMul]; with_reducible rfl) trivial (by simp) trivial (by simp [snapL, snap, leL, le, leD, ints, i64, boo]) ?_
    have e : head39 s = true := h0
    simp [l39, b39, e]; rfl
  · have h0 := hd
    refine wpA_skip ?_
    refine tN ?_
    refine wpA_seq ?_
    refine wpA_reg [0, 4, 5] [] rfl (by simp only [go_sem, Nat.reduceBEq, Nat.reduceAdd, Nat.reduceEqDiff, Nat.reduceLeDiff, Nat.reduceLT, Nat.reduceMul]; with_reducible rfl) (by first | trivial | omega | (simp +contextual [inI64] <;> omega)) ?_
    refine wpA_block ?_
    refine wpA_loop (fun j : Nat => ⟨[(0, .d (str s)), (4, .own 0), (5, .d (i64 j))], enum [.row 3 1 ((digT s j).map encI)] 0, 1⟩) (fun j => j ≤ s.size ∧ allTo (okC s) j = true) (fun j => s.size - j) 0 (weak_of [2] trivial (by simp) (by simp only [go_sem, Int.natCast_zero, digT_zero, Nat.reduceBEq, Nat.reduceAdd, Nat.reduceEqDiff, Nat.reduceLeDiff, Nat.reduceLT, Nat.reduceMul]) (by simp only [go_sem, Int.natCast_zero, digT_zero, Nat.reduceBEq, Nat.reduceAdd, Nat.reduceEqDiff, Nat.reduceLeDiff, Nat.reduceLT, Nat.reduceMul])) ⟨Nat.zero_le _, rfl⟩ (fun j hj => ?_)
    obtain ⟨hj, hjv⟩ := hj
    refine wpA_seq ?_
    refine wpA_reg [0, 4, 5, 19] [] rfl (by simp only [go_sem, Nat.reduceBEq, Nat.reduceAdd, Nat.reduceEqDiff, Nat.reduceLeDiff, Nat.reduceLT, Nat.reduceMul]; with_reducible rfl) (by first | trivial | omega | (simp +contextual [inI64] <;> omega)) ?_
    refine wpA_cond rfl (fun hc => ?_) (fun hc => ?_)
    · have hc : j < s.size := by simpa using hc
      refine wpA_skip ?_
      refine tN ?_
      refine wpA_seq ?_
      refine wpA_block ?_
      refine wpA_seq ?_
      refine wpA_reg [0, 4, 5, 30] [] rfl (by simp only [go_sem, Nat.reduceBEq, Nat.reduceAdd, Nat.reduceEqDiff, Nat.reduceLeDiff, Nat.reduceLT, Nat.reduceMul]; with_reducible rfl) (by first | trivial | omega | (simp +contextual [inI64] <;> omega)) ?_
      refine wpA_cond rfl (fun hd => ?_) (fun hd => ?_)
      · have h1 := hd
        refine wpA_reg [2, 3] [] rfl (by simp only [go_sem, Nat.reduceBEq, Nat.reduceAdd, Nat.reduceEqDiff, Nat.reduceLeDiff, Nat.reduceLT, Nat.reduceMul]; with_reducible rfl) (by first | trivial | omega | (simp +contextual [inI64] <;> omega)) ?_
        refine wpA_ret (tR (bR (tR (tR (bR (tR ?_))))))
        refine endL (l := [.d (ints []), .d (boo false)]) [] (.inr rfl) (by simp only [go_sem, Nat.reduceBEq, Nat.reduceAdd, Nat.reduceEqDiff, Nat.reduceLeDiff, Nat.reduceLT, Nat.reduceMul]; with_reducible rfl) trivial (by simp) trivial (by simp [snapL, snap, leL, le, leD, ints, i64, boo]) ?_
        have e : allTo (okC s) s.size = false := all_no hc (by rw [okC, hd]; rfl)
        simp [l39, b39, e]; rfl
      · have h1 := hd
        refine wpA_skip ?_
        refine tN ?_
        refine wpA_reg [0, 4, 5, 33] [] rfl (by simp only [go_sem, Nat.reduceBEq, Nat.reduceAdd, Nat.reduceEqDiff, Nat.reduceLeDiff, Nat.reduceLT, Nat.reduceMul]; with_reducible rfl) (by first | trivial | omega | (simp +contextual [inI64] <;> omega)) ?_
        refine wpA_cond rfl (fun hd => ?_) (fun hd => ?_)
        · have h2 := hd
          have hu := UInt8.toNat_lt (s.get! j)
          have hn := digT_even hc (of_decide_eq_true hd)
          have hdl := digT_len s j
          have hs13 : s.size ≤ 13 := by simp at h0; omega
          refine wpA_region [0, 4, 5] [] rfl (by simp only [go_sem, Nat.reduceBEq, Nat.reduceAdd, Nat.reduceEqDiff, Nat.reduceLeDiff, Nat.reduceLT, Nat.reduceMul]; with_reducible rfl) (by first | trivial | omega | (simp +contextual [inI64] <;> omega)) ?_
          refine bN (tN ?_)
          refine wpA_region [0, 4, 5] [] rfl (by simp only [go_sem, Nat.reduceBEq, Nat.reduceAdd, Nat.reduceEqDiff, Nat.reduceLeDiff, Nat.reduceLT, Nat.reduceMul]; with_reducible rfl) (by first | trivial | omega | (simp +contextual [inI64] <;> omega)) ?_
          refine tN ?_
          refine ⟨j + 1, ⟨hc, ?_⟩, by omega, weak_of [24] trivial (by simp) (by simp only [go_sem, Int.natCast_add, Int.natCast_one, hn, List.map_append, encI, Nat.reduceBEq, Nat.reduceAdd, Nat.reduceEqDiff, Nat.reduceLeDiff, Nat.reduceLT, Nat.reduceMul]) (by simp only [go_sem, Int.natCast_add, Int.natCast_one, hn, List.map_append, encI, Nat.reduceBEq, Nat.reduceAdd, Nat.reduceEqDiff, Nat.reduceLeDiff, Nat.reduceLT, Nat.reduceMul])⟩
          exact all_step hjv (by rw [okC, h1]; rfl)
        · have h2 := hd
          have hn := digT_odd hc (of_decide_eq_false hd)
          refine wpA_skip ?_
          refine bN (tN ?_)
          refine wpA_region [0, 4, 5] [] rfl (by simp only [go_sem, Nat.reduceBEq, Nat.reduceAdd, Nat.reduceEqDiff, Nat.reduceLeDiff, Nat.reduceLT, Nat.reduceMul]; with_reducible rfl) (by first | trivial | omega | (simp +contextual [inI64] <;> omega)) ?_
          refine tN ?_
          refine ⟨j + 1, ⟨hc, ?_⟩, by omega, weak_of [0] trivial (by simp) (by simp only [go_sem, Int.natCast_add, Int.natCast_one, hn, List.map_append, encI, Nat.reduceBEq, Nat.reduceAdd, Nat.reduceEqDiff, Nat.reduceLeDiff, Nat.reduceLT, Nat.reduceMul]) (by simp only [go_sem, Int.natCast_add, Int.natCast_one, hn, List.map_append, encI, Nat.reduceBEq, Nat.reduceAdd, Nat.reduceEqDiff, Nat.reduceLeDiff, Nat.reduceLT, Nat.reduceMul])⟩
          exact all_step hjv (by rw [okC, h1]; rfl)
    · have hc : j = s.size := by simp at hc; omega
      subst hc
      have hall0 := hjv
      refine wpA_exit (tE (tE (bE ?_)))
      refine tN ?_
      refine wpA_reg [2, 3] [usePure (f32_walk (digT s s.size)) rfl cb32] rfl (by simp only [go_sem, Nat.reduceBEq, Nat.reduceAdd, Nat.reduceEqDiff, Nat.reduceLeDiff, Nat.reduceLT, Nat.reduceMul]; with_reducible rfl) (by first | trivial | omega | (simp +contextual [inI64] <;> omega)) ?_
      refine wpA_ret ?_
      refine endD (.inr rfl) (by simp only [go_sem, Nat.reduceBEq, Nat.reduceAdd, Nat.reduceEqDiff, Nat.reduceLeDiff, Nat.reduceLT, Nat.reduceMul]; with_reducible rfl) ?_
      simp only [go_sem, Nat.reduceBEq, Nat.reduceAdd, Nat.reduceEqDiff, Nat.reduceLeDiff, Nat.reduceLT, Nat.reduceMul]
      have e : head39 s = false := h0
      simp [l39, b39, e, hall0]

end Go.Abs
