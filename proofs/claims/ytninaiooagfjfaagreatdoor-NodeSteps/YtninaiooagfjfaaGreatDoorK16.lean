/- Walks: lists that are alike, what is in a list. No conditions. -/
import Derived.Test.YtninaiooagfjfaaGreatDoorK15
set_option linter.unusedVariables false
set_option linter.unusedSimpArgs false
set_option maxRecDepth 20000
namespace Go.Abs
open Go Go.RowKit Go.Proofs

theorem bfalse {b : Bool} (h : b = true → False) : b = false := by cases b with | false => rfl | true => exact (h rfl).elim
def okLI (a b : List Int) (j : Nat) : Bool := !(decide (iAt a j ≠ iAt b j))
def likeI (a b : List Int) : Bool := !(decide ((a.length : Int) ≠ b.length)) && allTo (okLI a b) a.length
def recEq (a b : Rec) : Bool := decide (a.term = b.term) && (decide (a.kind = b.kind) && decide (a.data = b.data))
def okLR (a b : List Rec) (j : Nat) : Bool := recEq (rAt a j) (rAt b j)
def likeR (a b : List Rec) : Bool := !(decide ((a.length : Int) ≠ b.length)) && allTo (okLR a b) a.length
def okIn (l : List Int) (x : Int) (j : Nat) : Bool := !(decide (x = iAt l j))
def inL (l : List Int) (x : Int) : Bool := !(allTo (okIn l x) l.length)
/-- The first place at which something fails. -/
def firstNo (ok : Nat → Bool) (n : Nat) : Int := match (List.range n).find? (fun j => !ok j) with | some j => j | none => -1
theorem first_some {ok : Nat → Bool} {j n : Nat} (hj : j < n) (h : allTo ok j = true) (h2 : ok j = false) : firstNo ok n = j := by
  have : (List.range n).find? (fun j => !ok j) = some j := by
    rw [List.find?_range_eq_some]
    exact ⟨by simp [h2], List.mem_range.2 hj, fun k hk => by simp [all_spec h hk]⟩
  rw [firstNo, this]
theorem first_none {ok : Nat → Bool} {n : Nat} (h : allTo ok n = true) : firstNo ok n = -1 := by
  have : (List.range n).find? (fun j => !ok j) = none := by
    rw [List.find?_eq_none]
    intro j hj
    simp [all_spec h (List.mem_range.1 hj)]
  rw [firstNo, this]
def okP (l : List Peer) (x : Int) (j : Nat) : Bool := !(decide ((pAt l j).id = x))
def pIdx (l : List Peer) (x : Int) : Int := firstNo (okP l x) l.length
def headH (a b : Hard) : Bool := decide (a.term ≠ b.term) || decide (a.vote ≠ b.vote) || decide (a.snap ≠ b.snap) || decide (a.log.base ≠ b.log.base) || decide (a.log.bterm ≠ b.log.bterm) || decide ((a.log.recs.length : Int) ≠ b.log.recs.length) || !(likeI a.voters b.voters)
def likeH (a b : Hard) : Bool := !(headH a b) && allTo (okLR a.log.recs b.log.recs) a.log.recs.length
theorem cb36 : callB Tryz.prog 36 = true := by kernel_rfl
theorem f36_walk (a b : List Int) : CallsA Tryz.prog 36 [.d (ints a), .d (ints b)] [] (.d (boo (likeI a b))) [] := by
  refine callsA_len (k := 0) rfl fun hlen => ?_
  rw [List.length_map] at hlen
  refine callsW_of (fn := Tryz.f36) [.tmp 4] Tryz.func36 rfl rfl (by show 2 ≤ 26; omega) ?_
  refine wpA_reg [0, 1] [] rfl (by simp only [go_sem, Nat.reduceBEq, Nat.reduceAdd, Nat.reduceEqDiff, Nat.reduceLeDiff, Nat.reduceLT, Nat.reduceMul]; with_reducible rfl) (by first | trivial | omega | (simp +contextual [inI64] <;> omega)) ?_
  refine wpA_seq ?_
  refine wpA_reg [0, 1, 10] [] rfl (by simp only [go_sem, Nat.reduceBEq, Nat.reduceAdd, Nat.reduceEqDiff, Nat.reduceLeDiff, Nat.reduceLT, Nat.reduceMul]; with_reducible rfl) (by first | trivial | omega | (simp +contextual [inI64] <;> omega)) ?_
  refine wpA_cond rfl (fun hd => ?_) (fun hd => ?_)
  · have h0 := hd
    refine wpA_reg [4] [] rfl (by simp only [go_sem, Nat.reduceBEq, Nat.reduceAdd, Nat.reduceEqDiff, Nat.reduceLeDiff, Nat.reduceLT, Nat.reduceMul]; with_reducible rfl) (by first | trivial | omega | (simp +contextual [inI64] <;> omega)) ?_
    refine wpA_ret (tR ?_)
    refine endD (.inr rfl) (by simp only [go_sem, Nat.reduceBEq, Nat.reduceAdd, Nat.reduceEqDiff, Nat.reduceLeDiff, Nat.reduceLT, Nat.reduceMul]; with_reducible rfl) ?_
    simp only [go_sem]
    rw [likeI, hd]; rfl
  · have h0 := hd
    have hab : a.length = b.length := by simp at hd; omega
    refine wpA_skip ?_
    refine tN ?_
    refine wpA_seq ?_
    refine wpA_reg [0, 1, 12, 13] [] rfl (by simp only [go_sem, Nat.reduceBEq, Nat.reduceAdd, Nat.reduceEqDiff, Nat.reduceLeDiff, Nat.reduceLT, Nat.reduceMul]; with_reducible rfl) (by first | trivial | omega | (simp +contextual [inI64] <;> omega)) ?_
    refine wpA_block ?_
    refine wpA_loop (fun j : Nat => ⟨[(0, .d (ints a)), (1, .d (ints b)), (12, .d (i64 a.length)), (13, .d (i64 j))], [], 0⟩) (fun j => j ≤ a.length ∧ allTo (okLI a b) j = true) (fun j => a.length - j) 0 (weak_of (bs := []) [] trivial (by simp) trivial (by simp only [go_sem, Int.natCast_zero, Nat.reduceBEq])) ⟨Nat.zero_le _, rfl⟩ (fun j hj => ?_)
    obtain ⟨hj, hjv⟩ := hj
    refine wpA_reg [0, 1, 12, 13, 14] [] rfl (by simp only [go_sem, Nat.reduceBEq, Nat.reduceAdd, Nat.reduceEqDiff, Nat.reduceLeDiff, Nat.reduceLT, Nat.reduceMul]; with_reducible rfl) (by first | trivial | omega | (simp +contextual [inI64] <;> omega)) ?_
    refine wpA_seq ?_
    refine wpA_cond rfl (fun hc => ?_) (fun hc => ?_)
    · have hc : j < a.length := by simpa using hc
      have hg := ints_getD a hc
      have e : ((j : Int) - 1).toNat = j - 1 := by omega
      have hg2 := ints_getD a (j := j - 1) (by omega)
      have hl := ints_len a
      have hlx : j < b.length := by omega
      have hgB := ints_getD b hlx
      have hlB := ints_len b
      refine wpA_skip ?_
      refine tN ?_
      refine wpA_seq ?_
      refine wpA_block ?_
      refine wpA_reg [0, 1, 5, 12, 13] [] rfl (by simp only [go_sem, hg, hg2, e, encI, hgB, Nat.reduceBEq, Nat.reduceAdd, Nat.reduceEqDiff, Nat.reduceLeDiff, Nat.reduceLT, Nat.reduceMul]; with_reducible rfl) (by first | trivial | omega | (simp +contextual [inI64, hlB, hlx] <;> omega)) ?_
      refine wpA_regD [[0], [5], [16, 17], [18], [1], [5], [20, 21], [22], [19, 23]] [0, 1, 12, 13, 24] [] mx rfl (by simp only [go_sem, hg, hg2, e, encI, hgB, Nat.reduceBEq, Nat.reduceAdd, Nat.reduceEqDiff, Nat.reduceLeDiff, Nat.reduceLT, Nat.reduceMul]; with_reducible rfl) (by kernel_rfl) (by first | trivial | omega | (simp +contextual [inI64, hlB, hlx] <;> omega)) ?_
      refine wpA_cond rfl (fun hd => ?_) (fun hd => ?_)
      · have h1 := hd
        refine wpA_reg [4] [] rfl (by simp only [go_sem, hg, hg2, e, encI, hgB, Nat.reduceBEq, Nat.reduceAdd, Nat.reduceEqDiff, Nat.reduceLeDiff, Nat.reduceLT, Nat.reduceMul]; with_reducible rfl) (by first | trivial | omega | (simp +contextual [inI64, hlB, hlx] <;> omega)) ?_
        refine wpA_ret (bR (tR (tR (bR (tR ?_)))))
        refine endD (.inr rfl) (by simp only [go_sem, Nat.reduceBEq, Nat.reduceAdd, Nat.reduceEqDiff, Nat.reduceLeDiff, Nat.reduceLT, Nat.reduceMul]; with_reducible rfl) ?_
        simp only [go_sem]
        rw [likeI, all_no hc (bfalse fun h => by simp [okLI, recEq] at h; simp [h] at hd), Bool.and_false]
      · have h1 := hd
        refine wpA_skip ?_
        refine bN (tN ?_)
        refine wpA_region [0, 1, 12, 13] [] rfl (by simp only [go_sem, hg, hg2, e, encI, hgB, Nat.reduceBEq, Nat.reduceAdd, Nat.reduceEqDiff, Nat.reduceLeDiff, Nat.reduceLT, Nat.reduceMul]; with_reducible rfl) (by first | trivial | omega | (simp +contextual [inI64, hlB, hlx] <;> omega)) ?_
        refine tN ?_
        refine ⟨j + 1, ⟨hc, ?_⟩, by omega, weak_of (bs := []) [] trivial (by simp) trivial (by simp only [go_sem, Int.natCast_add, Int.natCast_one, Nat.reduceBEq])⟩
        exact all_step hjv (by rw [okLI]; simpa [recEq] using hd)
    · have hc : j = a.length := by simp at hc; omega
      subst hc
      refine wpA_exit (tE (tE (bE ?_)))
      refine tN ?_
      refine wpA_reg [4] [] rfl (by simp only [go_sem, Nat.reduceBEq, Nat.reduceAdd, Nat.reduceEqDiff, Nat.reduceLeDiff, Nat.reduceLT, Nat.reduceMul]; with_reducible rfl) (by first | trivial | omega | (simp +contextual [inI64] <;> omega)) ?_
      refine wpA_ret ?_
      refine endD (.inr rfl) (by simp only [go_sem, Nat.reduceBEq, Nat.reduceAdd, Nat.reduceEqDiff, Nat.reduceLeDiff, Nat.reduceLT, Nat.reduceMul]; with_reducible rfl) ?_
      simp only [go_sem]
      rw [likeI, hjv, h0]; rfl

theorem cb48 : callB Tryz.prog 48 = true := by kernel_rfl
theorem f48_walk (a b : List Rec) : CallsA Tryz.prog 48 [.d (recs a), .d (recs b)] [] (.d (boo (likeR a b))) [] := by
  refine callsA_len (k := 0) rfl fun hlen => ?_
  rw [List.length_map] at hlen
  refine callsW_of (fn := Tryz.f48) [.tmp 4] Tryz.func48 rfl rfl (by show 2 ≤ 26; omega) ?_
  refine wpA_reg [0, 1] [] rfl (by simp only [go_sem, Nat.reduceBEq, Nat.reduceAdd, Nat.reduceEqDiff, Nat.reduceLeDiff, Nat.reduceLT, Nat.reduceMul]; with_reducible rfl) (by first | trivial | omega | (simp +contextual [inI64] <;> omega)) ?_
  refine wpA_seq ?_
  refine wpA_reg [0, 1, 10] [] rfl (by simp only [go_sem, Nat.reduceBEq, Nat.reduceAdd, Nat.reduceEqDiff, Nat.reduceLeDiff, Nat.reduceLT, Nat.reduceMul]; with_reducible rfl) (by first | trivial | omega | (simp +contextual [inI64] <;> omega)) ?_
  refine wpA_cond rfl (fun hd => ?_) (fun hd => ?_)
  · have h0 := hd
    refine wpA_reg [4] [] rfl (by simp only [go_sem, Nat.reduceBEq, Nat.reduceAdd, Nat.reduceEqDiff, Nat.reduceLeDiff, Nat.reduceLT, Nat.reduceMul]; with_reducible rfl) (by first | trivial | omega | (simp +contextual [inI64] <;> omega)) ?_
    refine wpA_ret (tR ?_)
    refine endD (.inr rfl) (by simp only [go_sem, Nat.reduceBEq, Nat.reduceAdd, Nat.reduceEqDiff, Nat.reduceLeDiff, Nat.reduceLT, Nat.reduceMul]; with_reducible rfl) ?_
    simp only [go_sem]
    rw [likeR, hd]; rfl
  · have h0 := hd
    have hab : a.length = b.length := by simp at hd; omega
    refine wpA_skip ?_
    refine tN ?_
    refine wpA_seq ?_
    refine wpA_reg [0, 1, 12, 13] [] rfl (by simp only [go_sem, Nat.reduceBEq, Nat.reduceAdd, Nat.reduceEqDiff, Nat.reduceLeDiff, Nat.reduceLT, Nat.reduceMul]; with_reducible rfl) (by first | trivial | omega | (simp +contextual [inI64] <;> omega)) ?_
    refine wpA_block ?_
    refine wpA_loop (fun j : Nat => ⟨[(0, .d (recs a)), (1, .d (recs b)), (12, .d (i64 a.length)), (13, .d (i64 j))], [], 0⟩) (fun j => j ≤ a.length ∧ allTo (okLR a b) j = true) (fun j => a.length - j) 0 (weak_of (bs := []) [] trivial (by simp) trivial (by simp only [go_sem, Int.natCast_zero, Nat.reduceBEq])) ⟨Nat.zero_le _, rfl⟩ (fun j hj => ?_)
    obtain ⟨hj, hjv⟩ := hj
    refine wpA_reg [0, 1, 12, 13, 14] [] rfl (by simp only [go_sem, Nat.reduceBEq, Nat.reduceAdd, Nat.reduceEqDiff, Nat.reduceLeDiff, Nat.reduceLT, Nat.reduceMul]; with_reducible rfl) (by first | trivial | omega | (simp +contextual [inI64] <;> omega)) ?_
    refine wpA_seq ?_
    refine wpA_cond rfl (fun hc => ?_) (fun hc => ?_)
    · have hc : j < a.length := by simpa using hc
      have hg := recs_getD a hc
      have e : ((j : Int) - 1).toNat = j - 1 := by omega
      have hg2 := recs_getD a (j := j - 1) (by omega)
      have hl := recs_len a
      have hlx : j < b.length := by omega
      have hgB := recs_getD b hlx
      have hlB := recs_len b
      refine wpA_skip ?_
      refine tN ?_
      refine wpA_seq ?_
      refine wpA_block ?_
      refine wpA_reg [0, 1, 5, 12, 13] [] rfl (by simp only [go_sem, hg, hg2, e, encRec, hgB, Nat.reduceBEq, Nat.reduceAdd, Nat.reduceEqDiff, Nat.reduceLeDiff, Nat.reduceLT, Nat.reduceMul]; with_reducible rfl) (by first | trivial | omega | (simp +contextual [inI64, hlB, hlx] <;> omega)) ?_
      refine wpA_regD [[0], [5], [16, 17], [18], [1], [5], [20, 21], [22], [19, 23]] [0, 1, 12, 13, 24] [] mx rfl (by simp only [go_sem, hg, hg2, e, encRec, hgB, Nat.reduceBEq, Nat.reduceAdd, Nat.reduceEqDiff, Nat.reduceLeDiff, Nat.reduceLT, Nat.reduceMul]; with_reducible rfl) (by kernel_rfl) (by first | trivial | omega | (simp +contextual [inI64, hlB, hlx] <;> omega)) ?_
      refine wpA_cond rfl (fun hd => ?_) (fun hd => ?_)
      · have h1 := hd
        refine wpA_reg [4] [] rfl (by simp only [go_sem, hg, hg2, e, encRec, hgB, Nat.reduceBEq, Nat.reduceAdd, Nat.reduceEqDiff, Nat.reduceLeDiff, Nat.reduceLT, Nat.reduceMul]; with_reducible rfl) (by first | trivial | omega | (simp +contextual [inI64, hlB, hlx] <;> omega)) ?_
        refine wpA_ret (bR (tR (tR (bR (tR ?_)))))
        refine endD (.inr rfl) (by simp only [go_sem, Nat.reduceBEq, Nat.reduceAdd, Nat.reduceEqDiff, Nat.reduceLeDiff, Nat.reduceLT, Nat.reduceMul]; with_reducible rfl) ?_
        simp only [go_sem]
        rw [likeR, all_no hc (bfalse fun h => by simp [okLR, recEq] at h; simp [h] at hd), Bool.and_false]
      · have h1 := hd
        refine wpA_skip ?_
        refine bN (tN ?_)
        refine wpA_region [0, 1, 12, 13] [] rfl (by simp only [go_sem, hg, hg2, e, encRec, hgB, Nat.reduceBEq, Nat.reduceAdd, Nat.reduceEqDiff, Nat.reduceLeDiff, Nat.reduceLT, Nat.reduceMul]; with_reducible rfl) (by first | trivial | omega | (simp +contextual [inI64, hlB, hlx] <;> omega)) ?_
        refine tN ?_
        refine ⟨j + 1, ⟨hc, ?_⟩, by omega, weak_of (bs := []) [] trivial (by simp) trivial (by simp only [go_sem, Int.natCast_add, Int.natCast_one, Nat.reduceBEq])⟩
        exact all_step hjv (by rw [okLR]; simpa [recEq] using hd)
    · have hc : j = a.length := by simp at hc; omega
      subst hc
      refine wpA_exit (tE (tE (bE ?_)))
      refine tN ?_
      refine wpA_reg [4] [] rfl (by simp only [go_sem, Nat.reduceBEq, Nat.reduceAdd, Nat.reduceEqDiff, Nat.reduceLeDiff, Nat.reduceLT, Nat.reduceMul]; with_reducible rfl) (by first | trivial | omega | (simp +contextual [inI64] <;> omega)) ?_
      refine wpA_ret ?_
      refine endD (.inr rfl) (by simp only [go_sem, Nat.reduceBEq, Nat.reduceAdd, Nat.reduceEqDiff, Nat.reduceLeDiff, Nat.reduceLT, Nat.reduceMul]; with_reducible rfl) ?_
      simp only [go_sem]
      rw [likeR, hjv, h0]; rfl

theorem cb41 : callB Tryz.prog 41 = true := by kernel_rfl
theorem f41_walk (l : List Int) (x : Int) : CallsA Tryz.prog 41 [.d (ints l), .d (i64 x)] [] (.d (boo (inL l x))) [] := by
  refine callsA_len (k := 0) rfl fun hlen => ?_
  rw [List.length_map] at hlen
  refine callsW_of (fn := Tryz.f41) [.tmp 4] Tryz.func41 rfl rfl (by show 2 ≤ 17; omega) ?_
  refine wpA_reg [0, 1] [] rfl (by simp only [go_sem, Nat.reduceBEq, Nat.reduceAdd, Nat.reduceEqDiff, Nat.reduceLeDiff, Nat.reduceLT, Nat.reduceMul]; with_reducible rfl) (by first | trivial | omega | (simp +contextual [inI64] <;> omega)) ?_
  refine wpA_seq ?_
  refine wpA_reg [1, 7, 8, 9] [] rfl (by simp only [go_sem, Nat.reduceBEq, Nat.reduceAdd, Nat.reduceEqDiff, Nat.reduceLeDiff, Nat.reduceLT, Nat.reduceMul]; with_reducible rfl) (by first | trivial | omega | (simp +contextual [inI64] <;> omega)) ?_
  refine wpA_block ?_
  refine wpA_loop (fun j : Nat => ⟨[(1, .d (i64 x)), (7, .d (ints l)), (8, .d (i64 l.length)), (9, .d (i64 j))], [], 0⟩) (fun j => j ≤ l.length ∧ allTo (okIn l x) j = true) (fun j => l.length - j) 0 (weak_of (bs := []) [] trivial (by simp) trivial (by simp only [go_sem, Int.natCast_zero, Nat.reduceBEq])) ⟨Nat.zero_le _, rfl⟩ (fun j hj => ?_)
  obtain ⟨hj, hjv⟩ := hj
  refine wpA_reg [1, 7, 8, 9, 10] [] rfl (by simp only [go_sem, Nat.reduceBEq, Nat.reduceAdd, Nat.reduceEqDiff, Nat.reduceLeDiff, Nat.reduceLT, Nat.reduceMul]; with_reducible rfl) (by first | trivial | omega | (simp +contextual [inI64] <;> omega)) ?_
  refine wpA_seq ?_
  refine wpA_cond rfl (fun hc => ?_) (fun hc => ?_)
  · have hc : j < l.length := by simpa using hc
    have hg := ints_getD l hc
    have e : ((j : Int) - 1).toNat = j - 1 := by omega
    have hg2 := ints_getD l (j := j - 1) (by omega)
    have hl := ints_len l
    refine wpA_skip ?_
    refine tN ?_
    refine wpA_seq ?_
    refine wpA_block ?_
    refine wpA_reg [1, 6, 7, 8, 9] [] rfl (by simp only [go_sem, hg, hg2, e, encI, Nat.reduceBEq, Nat.reduceAdd, Nat.reduceEqDiff, Nat.reduceLeDiff, Nat.reduceLT, Nat.reduceMul]; with_reducible rfl) (by first | trivial | omega | (simp +contextual [inI64, hl, hc] <;> omega)) ?_
    refine wpA_reg [1, 7, 8, 9, 15] [] rfl (by simp only [go_sem, hg, hg2, e, encI, Nat.reduceBEq, Nat.reduceAdd, Nat.reduceEqDiff, Nat.reduceLeDiff, Nat.reduceLT, Nat.reduceMul]; with_reducible rfl) (by first | trivial | omega | (simp +contextual [inI64, hl, hc] <;> omega)) ?_
    refine wpA_cond rfl (fun hd => ?_) (fun hd => ?_)
    · have h0 := hd
      refine wpA_reg [4] [] rfl (by simp only [go_sem, hg, hg2, e, encI, Nat.reduceBEq, Nat.reduceAdd, Nat.reduceEqDiff, Nat.reduceLeDiff, Nat.reduceLT, Nat.reduceMul]; with_reducible rfl) (by first | trivial | omega | (simp +contextual [inI64, hl, hc] <;> omega)) ?_
      refine wpA_ret (bR (tR (tR (bR (tR ?_)))))
      refine endD (.inr rfl) (by simp only [go_sem, Nat.reduceBEq, Nat.reduceAdd, Nat.reduceEqDiff, Nat.reduceLeDiff, Nat.reduceLT, Nat.reduceMul]; with_reducible rfl) ?_
      simp only [go_sem]
      rw [inL, all_no hc (by rw [okIn, hd]; rfl)]; rfl
    · have h0 := hd
      refine wpA_skip ?_
      refine bN (tN ?_)
      refine wpA_region [1, 7, 8, 9] [] rfl (by simp only [go_sem, hg, hg2, e, encI, Nat.reduceBEq, Nat.reduceAdd, Nat.reduceEqDiff, Nat.reduceLeDiff, Nat.reduceLT, Nat.reduceMul]; with_reducible rfl) (by first | trivial | omega | (simp +contextual [inI64, hl, hc] <;> omega)) ?_
      refine tN ?_
      refine ⟨j + 1, ⟨hc, ?_⟩, by omega, weak_of (bs := []) [] trivial (by simp) trivial (by simp only [go_sem, Int.natCast_add, Int.natCast_one, Nat.reduceBEq])⟩
      exact all_step hjv (by rw [okIn, hd]; rfl)
  · have hc : j = l.length := by simp at hc; omega
    subst hc
    refine wpA_exit (tE (tE (bE ?_)))
    refine tN ?_
    refine wpA_reg [4] [] rfl (by simp only [go_sem, Nat.reduceBEq, Nat.reduceAdd, Nat.reduceEqDiff, Nat.reduceLeDiff, Nat.reduceLT, Nat.reduceMul]; with_reducible rfl) (by first | trivial | omega | (simp +contextual [inI64] <;> omega)) ?_
    refine wpA_ret ?_
    refine endD (.inr rfl) (by simp only [go_sem, Nat.reduceBEq, Nat.reduceAdd, Nat.reduceEqDiff, Nat.reduceLeDiff, Nat.reduceLT, Nat.reduceMul]; with_reducible rfl) ?_
    simp only [go_sem]
    rw [inL, hjv]; rfl

theorem cb44 : callB Tryz.prog 44 = true := by kernel_rfl
theorem f44_walk (l : List Peer) (x : Int) : CallsA Tryz.prog 44 [.d (peers l), .d (i64 x)] [] (.d (i64 (pIdx l x))) [] := by
  refine callsA_len (k := 0) rfl fun hlen => ?_
  rw [List.length_map] at hlen
  refine callsW_of (fn := Tryz.f44) [.tmp 4] Tryz.func44 rfl rfl (by show 2 ≤ 20; omega) ?_
  refine wpA_reg [0, 1] [] rfl (by simp only [go_sem, Nat.reduceBEq, Nat.reduceAdd, Nat.reduceEqDiff, Nat.reduceLeDiff, Nat.reduceLT, Nat.reduceMul]; with_reducible rfl) (by first | trivial | omega | (simp +contextual [inI64] <;> omega)) ?_
  refine wpA_seq ?_
  refine wpA_reg [1, 7, 8, 9] [] rfl (by simp only [go_sem, Nat.reduceBEq, Nat.reduceAdd, Nat.reduceEqDiff, Nat.reduceLeDiff, Nat.reduceLT, Nat.reduceMul]; with_reducible rfl) (by first | trivial | omega | (simp +contextual [inI64] <;> omega)) ?_
  refine wpA_block ?_
  refine wpA_loop (fun j : Nat => ⟨[(1, .d (i64 x)), (7, .d (peers l)), (8, .d (i64 l.length)), (9, .d (i64 j))], [], 0⟩) (fun j => j ≤ l.length ∧ allTo (okP l x) j = true) (fun j => l.length - j) 0 (weak_of (bs := []) [] trivial (by simp) trivial (by simp only [go_sem, Int.natCast_zero, Nat.reduceBEq])) ⟨Nat.zero_le _, rfl⟩ (fun j hj => ?_)
  obtain ⟨hj, hjv⟩ := hj
  refine wpA_reg [1, 7, 8, 9, 10] [] rfl (by simp only [go_sem, Nat.reduceBEq, Nat.reduceAdd, Nat.reduceEqDiff, Nat.reduceLeDiff, Nat.reduceLT, Nat.reduceMul]; with_reducible rfl) (by first | trivial | omega | (simp +contextual [inI64] <;> omega)) ?_
  refine wpA_seq ?_
  refine wpA_cond rfl (fun hc => ?_) (fun hc => ?_)
  · have hc : j < l.length := by simpa using hc
    have hg := peers_getD l hc
    have e : ((j : Int) - 1).toNat = j - 1 := by omega
    have hg2 := peers_getD l (j := j - 1) (by omega)
    have hl := peers_len l
    refine wpA_skip ?_
    refine tN ?_
    refine wpA_seq ?_
    refine wpA_block ?_
    refine wpA_reg [1, 5, 6, 7, 8, 9] [] rfl (by simp only [go_sem, hg, hg2, e, encPeer, Nat.reduceBEq, Nat.reduceAdd, Nat.reduceEqDiff, Nat.reduceLeDiff, Nat.reduceLT, Nat.reduceMul]; with_reducible rfl) (by first | trivial | omega | (simp +contextual [inI64, hl, hc] <;> omega)) ?_
    refine wpA_reg [1, 5, 7, 8, 9, 17] [] rfl (by simp only [go_sem, hg, hg2, e, encPeer, Nat.reduceBEq, Nat.reduceAdd, Nat.reduceEqDiff, Nat.reduceLeDiff, Nat.reduceLT, Nat.reduceMul]; with_reducible rfl) (by first | trivial | omega | (simp +contextual [inI64, hl, hc] <;> omega)) ?_
    refine wpA_cond rfl (fun hd => ?_) (fun hd => ?_)
    · have h0 := hd
      refine wpA_reg [4] [] rfl (by simp only [go_sem, hg, hg2, e, encPeer, Nat.reduceBEq, Nat.reduceAdd, Nat.reduceEqDiff, Nat.reduceLeDiff, Nat.reduceLT, Nat.reduceMul]; with_reducible rfl) (by first | trivial | omega | (simp +contextual [inI64, hl, hc] <;> omega)) ?_
      refine wpA_ret (bR (tR (tR (bR (tR ?_)))))
      refine endD (.inr rfl) (by simp only [go_sem, Nat.reduceBEq, Nat.reduceAdd, Nat.reduceEqDiff, Nat.reduceLeDiff, Nat.reduceLT, Nat.reduceMul]; with_reducible rfl) ?_
      simp only [go_sem]
      rw [pIdx, first_some hc hjv (by rw [okP, hd]; rfl)]
    · have h0 := hd
      refine wpA_skip ?_
      refine bN (tN ?_)
      refine wpA_region [1, 7, 8, 9] [] rfl (by simp only [go_sem, hg, hg2, e, encPeer, Nat.reduceBEq, Nat.reduceAdd, Nat.reduceEqDiff, Nat.reduceLeDiff, Nat.reduceLT, Nat.reduceMul]; with_reducible rfl) (by first | trivial | omega | (simp +contextual [inI64, hl, hc] <;> omega)) ?_
      refine tN ?_
      refine ⟨j + 1, ⟨hc, ?_⟩, by omega, weak_of (bs := []) [] trivial (by simp) trivial (by simp only [go_sem, Int.natCast_add, Int.natCast_one, Nat.reduceBEq])⟩
      exact all_step hjv (by rw [okP, hd]; rfl)
  · have hc : j = l.length := by simp at hc; omega
    subst hc
    refine wpA_exit (tE (tE (bE ?_)))
    refine tN ?_
    refine wpA_reg [4] [] rfl (by simp only [go_sem, Nat.reduceBEq, Nat.reduceAdd, Nat.reduceEqDiff, Nat.reduceLeDiff, Nat.reduceLT, Nat.reduceMul]; with_reducible rfl) (by first | trivial | omega | (simp +contextual [inI64] <;> omega)) ?_
    refine wpA_ret ?_
    refine endD (.inr rfl) (by simp only [go_sem, Nat.reduceBEq, Nat.reduceAdd, Nat.reduceEqDiff, Nat.reduceLeDiff, Nat.reduceLT, Nat.reduceMul]; with_reducible rfl) ?_
    simp only [go_sem]
    rw [pIdx, first_none hjv]

theorem cb37 : callB Tryz.prog 37 = true := by kernel_rfl
theorem f37_walk (a b : Hard) : CallsA Tryz.prog 37 [.agg (hardV a), .agg (hardV b)] [] (.d (boo (likeH a b))) [] := by
  refine callsA_lenA (k := 0) (i := 4) rfl rfl fun hlen => ?_
  rw [List.length_map] at hlen
  refine callsW_of (fn := Tryz.f37) [.tmp 4] Tryz.func37 rfl rfl (by show 2 ≤ 83; omega) ?_
  refine wpA_reg [2, 3] [] rfl (by simp only [go_sem, Nat.reduceBEq, Nat.reduceAdd, Nat.reduceEqDiff, Nat.reduceLeDiff, Nat.reduceLT, Nat.reduceMul]; with_reducible rfl) (by first | trivial | omega | (simp +contextual [inI64] <;> omega)) ?_
  refine wpA_seq ?_
  refine wpA_reg [2, 3, 61] [usePure (f36_walk a.voters b.voters) rfl cb36] rfl (by simp only [go_sem, Nat.reduceBEq, Nat.reduceAdd, Nat.reduceEqDiff, Nat.reduceLeDiff, Nat.reduceLT, Nat.reduceMul]; with_reducible rfl) (by first | trivial | omega | (simp +contextual [inI64] <;> omega)) ?_
  refine wpA_cond rfl (fun hd => ?_) (fun hd => ?_)
  · have h0 := hd
    refine wpA_reg [4] [] rfl (by simp only [go_sem, Nat.reduceBEq, Nat.reduceAdd, Nat.reduceEqDiff, Nat.reduceLeDiff, Nat.reduceLT, Nat.reduceMul]; with_reducible rfl) (by first | trivial | omega | (simp +contextual [inI64] <;> omega)) ?_
    refine wpA_ret (tR ?_)
    refine endD (.inr rfl) (by simp only [go_sem, Nat.reduceBEq, Nat.reduceAdd, Nat.reduceEqDiff, Nat.reduceLeDiff, Nat.reduceLT, Nat.reduceMul]; with_reducible rfl) ?_
    simp only [go_sem]
    rw [likeH, headH, hd]; rfl
  · have h0 := hd
    have hab : a.log.recs.length = b.log.recs.length := by simp at hd; omega
    refine wpA_skip ?_
    refine tN ?_
    refine wpA_seq ?_
    refine wpA_reg [2, 3, 65, 66] [] rfl (by simp only [go_sem, Nat.reduceBEq, Nat.reduceAdd, Nat.reduceEqDiff, Nat.reduceLeDiff, Nat.reduceLT, Nat.reduceMul]; with_reducible rfl) (by first | trivial | omega | (simp +contextual [inI64] <;> omega)) ?_
    refine wpA_block ?_
    refine wpA_loop (fun j : Nat => ⟨[(2, .ptr 0 0), (3, .ptr 1 0), (65, .d (i64 a.log.recs.length)), (66, .d (i64 j))], enum [.var 27 (hardV a), .var 27 (hardV b)] 0, 2⟩) (fun j => j ≤ a.log.recs.length ∧ allTo (okLR a.log.recs b.log.recs) j = true) (fun j => a.log.recs.length - j) 0 (weak_of [0, 1] trivial (by simp) (by simp only [go_sem, Int.natCast_zero, Nat.reduceBEq, Nat.reduceAdd, Nat.reduceEqDiff, Nat.reduceLeDiff, Nat.reduceLT, Nat.reduceMul]) (by simp only [go_sem, Int.natCast_zero, Nat.reduceBEq, Nat.reduceAdd, Nat.reduceEqDiff, Nat.reduceLeDiff, Nat.reduceLT, Nat.reduceMul])) ⟨Nat.zero_le _, rfl⟩ (fun j hj => ?_)
    obtain ⟨hj, hjv⟩ := hj
    refine wpA_reg [2, 3, 65, 66, 67] [] rfl (by simp only [go_sem, Nat.reduceBEq, Nat.reduceAdd, Nat.reduceEqDiff, Nat.reduceLeDiff, Nat.reduceLT, Nat.reduceMul]; with_reducible rfl) (by first | trivial | omega | (simp +contextual [inI64] <;> omega)) ?_
    refine wpA_seq ?_
    refine wpA_cond rfl (fun hc => ?_) (fun hc => ?_)
    · have hc : j < a.log.recs.length := by simpa using hc
      have hg := recs_getD a.log.recs hc
      have e : ((j : Int) - 1).toNat = j - 1 := by omega
      have hg2 := recs_getD a.log.recs (j := j - 1) (by omega)
      have hl := recs_len a.log.recs
      have hlx : j < b.log.recs.length := by omega
      have hgB := recs_getD b.log.recs hlx
      have hlB := recs_len b.log.recs
      refine wpA_skip ?_
      refine tN ?_
      refine wpA_seq ?_
      refine wpA_block ?_
      refine wpA_reg [2, 3, 5, 65, 66] [] rfl (by simp only [go_sem, hg, hg2, e, encRec, hgB, Nat.reduceBEq, Nat.reduceAdd, Nat.reduceEqDiff, Nat.reduceLeDiff, Nat.reduceLT, Nat.reduceMul]; with_reducible rfl) (by first | trivial | omega | (simp +contextual [inI64, hlB, hlx] <;> omega)) ?_
      refine wpA_regD [[2], [69], [70], [5], [71, 72], [73], [3], [75], [76], [5], [77, 78], [79], [74, 80]] [2, 3, 65, 66, 81] [] mx rfl (by simp only [go_sem, hg, hg2, e, encRec, hgB, Nat.reduceBEq, Nat.reduceAdd, Nat.reduceEqDiff, Nat.reduceLeDiff, Nat.reduceLT, Nat.reduceMul]; with_reducible rfl) (by kernel_rfl) (by first | trivial | omega | (simp +contextual [inI64, hlB, hlx] <;> omega)) ?_
      refine wpA_cond rfl (fun hd => ?_) (fun hd => ?_)
      · have h1 := hd
        refine wpA_reg [4] [] rfl (by simp only [go_sem, hg, hg2, e, encRec, hgB, Nat.reduceBEq, Nat.reduceAdd, Nat.reduceEqDiff, Nat.reduceLeDiff, Nat.reduceLT, Nat.reduceMul]; with_reducible rfl) (by first | trivial | omega | (simp +contextual [inI64, hlB, hlx] <;> omega)) ?_
        refine wpA_ret (bR (tR (tR (bR (tR ?_)))))
        refine endD (.inr rfl) (by simp only [go_sem, Nat.reduceBEq, Nat.reduceAdd, Nat.reduceEqDiff, Nat.reduceLeDiff, Nat.reduceLT, Nat.reduceMul]; with_reducible rfl) ?_
        simp only [go_sem]
        rw [likeH, all_no hc (bfalse fun h => by simp [okLR, recEq] at h; simp [h] at hd), Bool.and_false]
      · have h1 := hd
        refine wpA_skip ?_
        refine bN (tN ?_)
        refine wpA_region [2, 3, 65, 66] [] rfl (by simp only [go_sem, hg, hg2, e, encRec, hgB, Nat.reduceBEq, Nat.reduceAdd, Nat.reduceEqDiff, Nat.reduceLeDiff, Nat.reduceLT, Nat.reduceMul]; with_reducible rfl) (by first | trivial | omega | (simp +contextual [inI64, hlB, hlx] <;> omega)) ?_
        refine tN ?_
        refine ⟨j + 1, ⟨hc, ?_⟩, by omega, weak_of [0, 1] trivial (by simp) (by simp only [go_sem, Int.natCast_add, Int.natCast_one, Nat.reduceBEq, Nat.reduceAdd, Nat.reduceEqDiff, Nat.reduceLeDiff, Nat.reduceLT, Nat.reduceMul]) (by simp only [go_sem, Int.natCast_add, Int.natCast_one, Nat.reduceBEq, Nat.reduceAdd, Nat.reduceEqDiff, Nat.reduceLeDiff, Nat.reduceLT, Nat.reduceMul])⟩
        exact all_step hjv (by rw [okLR]; simpa [recEq] using hd)
    · have hc : j = a.log.recs.length := by simp at hc; omega
      subst hc
      refine wpA_exit (tE (tE (bE ?_)))
      refine tN ?_
      refine wpA_reg [4] [] rfl (by simp only [go_sem, Nat.reduceBEq, Nat.reduceAdd, Nat.reduceEqDiff, Nat.reduceLeDiff, Nat.reduceLT, Nat.reduceMul]; with_reducible rfl) (by first | trivial | omega | (simp +contextual [inI64] <;> omega)) ?_
      refine wpA_ret ?_
      refine endD (.inr rfl) (by simp only [go_sem, Nat.reduceBEq, Nat.reduceAdd, Nat.reduceEqDiff, Nat.reduceLeDiff, Nat.reduceLT, Nat.reduceMul]; with_reducible rfl) ?_
      simp only [go_sem]
      rw [likeH, hjv, headH, h0]; rfl

end Go.Abs
