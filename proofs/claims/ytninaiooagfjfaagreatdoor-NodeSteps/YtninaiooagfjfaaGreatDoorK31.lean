/- Walks: which nodes may be. No conditions. -/
import Derived.Test.YtninaiooagfjfaaGreatDoorK30
set_option linter.unusedVariables false
set_option linter.unusedSimpArgs false
set_option maxRecDepth 20000
namespace Go.Abs
open Go Go.RowKit Go.Proofs

def head19 (n : Node) : Bool := !(inB n.id 1 9) || !(walR n.hard) || !(right n.hard.voters) || !(inB n.role 0 2) || (decide (0 < n.role) && decide (n.hard.term = 0)) || !(inB n.lead 0 9) || !(inB n.timer 0 1048576)
def head19b (n : Node) : Bool := !(inB n.commit n.hard.log.base (lastF n.hard.log).1) || !(rises n.got)
def okPe (n : Node) (j : Nat) : Bool := !(!(inB (pAt n.peers j).id 1 9) || decide ((pAt n.peers j).id = n.id) || (decide (0 < (j : Int)) && decide ((pAt n.peers j).id ≤ (pAt n.peers (j - 1)).id)) || !(inB (pAt n.peers j).next 1 ((lastF n.hard.log).1 + 1)) || !(inB (pAt n.peers j).mtch 0 ((pAt n.peers j).next - 1)))
def electR (n : Node) : Bool := !(head19 n) && (!(head19b n) && allTo (okPe n) n.peers.length)
def head7 (n : Node) : Bool := !(inB n.id 1 9) || !(walR n.hard) || !(right n.hard.voters)
def head7b (n : Node) : Bool := !(inB n.role 0 2) || (decide (n.role ≠ 0) && decide (n.hard.term = 0)) || !(inB n.lead 0 9) || !(inB n.timer 0 1048576) || !(rises n.got)
def okPr (n : Node) (j : Nat) : Bool := !(!(inB (pAt n.peers j).id 1 9) || decide ((pAt n.peers j).id = n.id) || (decide (0 < (j : Int)) && decide ((pAt n.peers j).id ≤ (pAt n.peers (j - 1)).id)) || !(inB (pAt n.peers j).next 1 (lastP n.hard.log + 1)) || !(inB (pAt n.peers j).mtch 0 ((pAt n.peers j).next - 1)))
def refR (n : Node) : Bool := !(head7 n) && (!(head7b n) && (allTo (okPr n) n.peers.length && inB n.commit n.hard.log.base (lastP n.hard.log)))
theorem walR_shaped {h : Hard} (hw : walR h = true) : shaped h = true := by simp [walR] at hw; exact hw.1
theorem shaped_log {h : Hard} (hs : shaped h = true) : logR h.log = true := by
  obtain ⟨h1, h2, h3, h4, h5, h6, h7, h8, h9, h10, h11⟩ := shaped_parts hs
  have e : head61 h.log = false := by
    have hb : (decide (h.log.base = 0) != decide (h.log.bterm = 0)) = false := by
      by_cases a : h.log.base = 0
      · have b := h8.1 a; simp [a, b]
      · have b : h.log.bterm ≠ 0 := fun e => a (h8.2 e)
        simp [a, b]
    simp [head61, inB, hb]; omega
  rw [logR, e]
  simp only [Bool.not_false, Bool.true_and]
  have : allTo (ok61 h.log) h.log.recs.length = allTo (ok99 h) h.log.recs.length := all_ext fun k hk hb => by
    have := h10 k hk
    rw [this]
    simp [ok99, inB] at this
    have h12 := this.1.1.1
    simp [ok61, inB]
    exact ⟨⟨⟨h12, by omega⟩, by omega⟩, by omega⟩
  rw [this]
  rw [shaped] at hs
  simp at hs
  exact hs.2.1
theorem walR_log {h : Hard} (hw : walR h = true) : logR h.log = true := shaped_log (walR_shaped hw)
theorem lastP_small {l : Lg} (h : SmallL l) : -4000000000 ≤ lastP l ∧ lastP l ≤ 4000000000 := by obtain ⟨a, b, c⟩ := h; unfold lastP; omega
theorem lastF_small {l : Lg} (h : logR l = true) : -4000000000 ≤ (lastF l).1 ∧ (lastF l).1 ≤ 4000000000 := by
  have := lastP_small (logR_small h)
  rw [lastF, if_pos h]; exact this
theorem e19 {n : Node} (h0 : head19 n = false) : walR n.hard = true := by
  cases hw : walR n.hard with
  | true => rfl
  | false => simp [head19, hw] at h0
theorem e7 {n : Node} (h0 : head7 n = false) : walR n.hard = true := by
  cases hw : walR n.hard with
  | true => rfl
  | false => simp [head7, hw] at h0
theorem cb19 : callB Tryz.prog 19 = true := by kernel_rfl
theorem f19_walk (n : Node) : CallsA Tryz.prog 19 [.agg (nodeV n)] [] (.d (boo (electR n))) [] := by
  refine callsA_lenA (k := 0) (i := 13) rfl rfl fun hlen => ?_
  rw [List.length_map] at hlen
  refine callsW_of (fn := Tryz.f19) [.tmp 2] Tryz.func19 rfl rfl (by show 1 ≤ 126; omega) ?_
  refine wpA_reg [1] [] rfl (by simp only [go_sem, Nat.reduceBEq, Nat.reduceAdd, Nat.reduceEqDiff, Nat.reduceLeDiff, Nat.reduceLT, Nat.reduceMul]; with_reducible rfl) (by first | trivial | omega | (simp +contextual [inI64] <;> omega)) ?_
  refine wpA_reg [1, 3] [] rfl (by simp only [go_sem, Nat.reduceBEq, Nat.reduceAdd, Nat.reduceEqDiff, Nat.reduceLeDiff, Nat.reduceLT, Nat.reduceMul]; with_reducible rfl) (by first | trivial | omega | (simp +contextual [inI64] <;> omega)) ?_
  refine wpA_seq ?_
  refine wpA_reg [1, 3, 52] [usePure (f54_walk (n.id) (1) (9)) rfl cb54, usePure (f55_walk n.hard) rfl cb55, usePure (f56_walk n.hard.voters) rfl cb56, usePure (f54_walk (n.role) (0) (2)) rfl cb54, usePure (f54_walk (n.lead) (0) (9)) rfl cb54, usePure (f54_walk (n.timer) (0) (1048576)) rfl cb54] rfl (by simp only [go_sem, Nat.reduceBEq, Nat.reduceAdd, Nat.reduceEqDiff, Nat.reduceLeDiff, Nat.reduceLT, Nat.reduceMul]; with_reducible rfl) (by first | trivial | omega | (simp +contextual [inI64] <;> omega)) ?_
  refine wpA_cond rfl (fun hd => ?_) (fun hd => ?_)
  · have h0 := hd
    refine wpA_reg [2] [] rfl (by simp only [go_sem, Nat.reduceBEq, Nat.reduceAdd, Nat.reduceEqDiff, Nat.reduceLeDiff, Nat.reduceLT, Nat.reduceMul]; with_reducible rfl) (by first | trivial | omega | (simp +contextual [inI64] <;> omega)) ?_
    refine wpA_ret (tR ?_)
    refine endD (.inr rfl) (by simp only [go_sem, Nat.reduceBEq, Nat.reduceAdd, Nat.reduceEqDiff, Nat.reduceLeDiff, Nat.reduceLT, Nat.reduceMul]; with_reducible rfl) ?_
    simp only [go_sem]
    rw [electR, head19, hd]; rfl
  · have h0 := hd
    have hb := lastF_small (walR_log (e19 h0))
    refine wpA_skip ?_
    refine tN ?_
    refine wpA_reg [1, 3, 4] [usePure (f57_walk n.hard.log) rfl cb57] rfl (by simp only [go_sem, Nat.reduceBEq, Nat.reduceAdd, Nat.reduceEqDiff, Nat.reduceLeDiff, Nat.reduceLT, Nat.reduceMul]; with_reducible rfl) (by first | trivial | omega | (simp +contextual [inI64] <;> omega)) ?_
    refine wpA_seq ?_
    refine wpA_reg [1, 4, 72] [usePure (f54_walk (n.commit) (n.hard.log.base) ((lastF n.hard.log).1)) rfl cb54, usePure (f58_walk n.got) rfl cb58] rfl (by simp only [go_sem, Nat.reduceBEq, Nat.reduceAdd, Nat.reduceEqDiff, Nat.reduceLeDiff, Nat.reduceLT, Nat.reduceMul]; with_reducible rfl) (by first | trivial | omega | (simp +contextual [inI64] <;> omega)) ?_
    refine wpA_cond rfl (fun hd => ?_) (fun hd => ?_)
    · have h1 := hd
      refine wpA_reg [2] [] rfl (by simp only [go_sem, Nat.reduceBEq, Nat.reduceAdd, Nat.reduceEqDiff, Nat.reduceLeDiff, Nat.reduceLT, Nat.reduceMul]; with_reducible rfl) (by first | trivial | omega | (simp +contextual [inI64] <;> omega)) ?_
      refine wpA_ret (tR ?_)
      refine endD (.inr rfl) (by simp only [go_sem, Nat.reduceBEq, Nat.reduceAdd, Nat.reduceEqDiff, Nat.reduceLeDiff, Nat.reduceLT, Nat.reduceMul]; with_reducible rfl) ?_
      simp only [go_sem]
      rw [electR, head19b, hd]; simp
    · have h1 := hd
      refine wpA_skip ?_
      refine tN ?_
      refine wpA_seq ?_
      refine wpA_reg [1, 4, 74, 75, 76] [] rfl (by simp only [go_sem, Nat.reduceBEq, Nat.reduceAdd, Nat.reduceEqDiff, Nat.reduceLeDiff, Nat.reduceLT, Nat.reduceMul]; with_reducible rfl) (by first | trivial | omega | (simp +contextual [inI64] <;> omega)) ?_
      refine wpA_block ?_
      refine wpA_loop (fun j : Nat => ⟨[(1, .ptr 0 0), (4, .d (i64 ((lastF n.hard.log).1))), (74, .d (peers n.peers)), (75, .d (i64 n.peers.length)), (76, .d (i64 j))], enum [.var 30 (nodeV n)] 0, 1⟩) (fun j => j ≤ n.peers.length ∧ allTo (okPe n) j = true) (fun j => n.peers.length - j) 0 (weak_of [0] trivial (by simp) (by simp only [go_sem, Int.natCast_zero, Nat.reduceBEq, Nat.reduceAdd, Nat.reduceEqDiff, Nat.reduceLeDiff, Nat.reduceLT, Nat.reduceMul]) (by simp only [go_sem, Int.natCast_zero, Nat.reduceBEq, Nat.reduceAdd, Nat.reduceEqDiff, Nat.reduceLeDiff, Nat.reduceLT, Nat.reduceMul])) ⟨Nat.zero_le _, rfl⟩ (fun j hj => ?_)
      obtain ⟨hj, hjv⟩ := hj
      refine wpA_reg [1, 4, 74, 75, 76, 77] [] rfl (by simp only [go_sem, Nat.reduceBEq, Nat.reduceAdd, Nat.reduceEqDiff, Nat.reduceLeDiff, Nat.reduceLT, Nat.reduceMul]; with_reducible rfl) (by first | trivial | omega | (simp +contextual [inI64] <;> omega)) ?_
      refine wpA_seq ?_
      refine wpA_cond rfl (fun hc => ?_) (fun hc => ?_)
      · have hc : j < n.peers.length := by simpa using hc
        have hg := peers_getD n.peers hc
        have e : ((j : Int) - 1).toNat = j - 1 := by omega
        have hg2 := peers_getD n.peers (j := j - 1) (by omega)
        have hl := peers_len n.peers
        refine wpA_skip ?_
        refine tN ?_
        refine wpA_seq ?_
        refine wpA_block ?_
        refine wpA_reg [1, 4, 6, 7, 74, 75, 76] [] rfl (by simp only [go_sem, hg, hg2, e, encPeer, Nat.reduceBEq, Nat.reduceAdd, Nat.reduceEqDiff, Nat.reduceLeDiff, Nat.reduceLT, Nat.reduceMul]; with_reducible rfl) (by first | trivial | omega | (simp +contextual [inI64, hl, hc, inB] <;> omega)) ?_
        refine wpA_regD [[7], [81], [82], [83], [84], [7, 85], [85, 86], [1, 85], [85, 88], [85, 87, 89], [85, 90], [91], [6, 92], [92, 93], [92, 94], [1, 95], [95, 96], [6, 95], [95, 98], [95, 97, 99], [95, 100], [95, 101], [7, 95], [95, 103], [95, 102, 104], [92, 95, 105], [92, 106], [107], [7, 108], [108, 109], [4, 108], [108, 111], [108, 110, 112], [108, 113], [108, 114], [115], [7, 116], [116, 117], [7, 116], [116, 119], [116, 120], [116, 118, 121], [116, 122], [116, 123]] [1, 4, 74, 75, 76, 124] [usePure (f54_walk ((pAt n.peers j).id) (1) (9)) rfl cb54, usePure (f54_walk ((pAt n.peers j).next) (1) (((lastF n.hard.log).1) + 1)) rfl cb54, usePure (f54_walk ((pAt n.peers j).mtch) (0) (((pAt n.peers j).next) - 1)) rfl cb54] mx rfl (by simp only [go_sem, hg, hg2, e, encPeer, Nat.reduceBEq, Nat.reduceAdd, Nat.reduceEqDiff, Nat.reduceLeDiff, Nat.reduceLT, Nat.reduceMul]; with_reducible rfl) (by kernel_rfl) (by first | trivial | omega | (simp +contextual [inI64, hl, hc, inB] <;> omega)) ?_
        refine wpA_cond rfl (fun hd => ?_) (fun hd => ?_)
        · have h2 := hd
          refine wpA_reg [2] [] rfl (by simp only [go_sem, hg, hg2, e, encPeer, Nat.reduceBEq, Nat.reduceAdd, Nat.reduceEqDiff, Nat.reduceLeDiff, Nat.reduceLT, Nat.reduceMul]; with_reducible rfl) (by first | trivial | omega | (simp +contextual [inI64, hl, hc, inB] <;> omega)) ?_
          refine wpA_ret (bR (tR (tR (bR (tR ?_)))))
          refine endD (.inr rfl) (by simp only [go_sem, Nat.reduceBEq, Nat.reduceAdd, Nat.reduceEqDiff, Nat.reduceLeDiff, Nat.reduceLT, Nat.reduceMul]; with_reducible rfl) ?_
          simp only [go_sem]
          rw [electR, all_no hc (by rw [okPe, hd]; rfl), Bool.and_false, Bool.and_false]
        · have h2 := hd
          refine wpA_skip ?_
          refine bN (tN ?_)
          refine wpA_region [1, 4, 74, 75, 76] [] rfl (by simp only [go_sem, hg, hg2, e, encPeer, Nat.reduceBEq, Nat.reduceAdd, Nat.reduceEqDiff, Nat.reduceLeDiff, Nat.reduceLT, Nat.reduceMul]; with_reducible rfl) (by first | trivial | omega | (simp +contextual [inI64, hl, hc, inB] <;> omega)) ?_
          refine tN ?_
          refine ⟨j + 1, ⟨hc, ?_⟩, by omega, weak_of [0] trivial (by simp) (by simp only [go_sem, Int.natCast_add, Int.natCast_one, Nat.reduceBEq, Nat.reduceAdd, Nat.reduceEqDiff, Nat.reduceLeDiff, Nat.reduceLT, Nat.reduceMul]) (by simp only [go_sem, Int.natCast_add, Int.natCast_one, Nat.reduceBEq, Nat.reduceAdd, Nat.reduceEqDiff, Nat.reduceLeDiff, Nat.reduceLT, Nat.reduceMul])⟩
          exact all_step hjv (by rw [okPe, hd]; rfl)
      · have hc : j = n.peers.length := by simp at hc; omega
        subst hc
        have hall0 := hjv
        refine wpA_exit (tE (tE (bE ?_)))
        refine tN ?_
        refine wpA_reg [2] [] rfl (by simp only [go_sem, Nat.reduceBEq, Nat.reduceAdd, Nat.reduceEqDiff, Nat.reduceLeDiff, Nat.reduceLT, Nat.reduceMul]; with_reducible rfl) (by first | trivial | omega | (simp +contextual [inI64] <;> omega)) ?_
        refine wpA_ret ?_
        refine endD (.inr rfl) (by simp only [go_sem, Nat.reduceBEq, Nat.reduceAdd, Nat.reduceEqDiff, Nat.reduceLeDiff, Nat.reduceLT, Nat.reduceMul]; with_reducible rfl) ?_
        simp only [go_sem]
        rw [electR, hall0, head19, head19b, h0, h1]; rfl

theorem cb7 : callB Tryz.prog 7 = true := by kernel_rfl
theorem f7_walk (n : Node) : CallsA Tryz.prog 7 [.agg (nodeV n)] [] (.d (boo (refR n))) [] := by
  refine callsA_lenA (k := 0) (i := 13) rfl rfl fun hlen => ?_
  rw [List.length_map] at hlen
  refine callsW_of (fn := Tryz.f7) [.tmp 2] Tryz.func7 rfl rfl (by show 1 ≤ 121; omega) ?_
  refine wpA_reg [1] [] rfl (by simp only [go_sem, Nat.reduceBEq, Nat.reduceAdd, Nat.reduceEqDiff, Nat.reduceLeDiff, Nat.reduceLT, Nat.reduceMul]; with_reducible rfl) (by first | trivial | omega | (simp +contextual [inI64] <;> omega)) ?_
  refine wpA_seq ?_
  refine wpA_reg [1, 22] [usePure (f30_walk (n.id) (1) (9)) rfl cb30, usePure (f31_walk n.hard) rfl cb31, usePure (f32_walk n.hard.voters) rfl cb32] rfl (by simp only [go_sem, Nat.reduceBEq, Nat.reduceAdd, Nat.reduceEqDiff, Nat.reduceLeDiff, Nat.reduceLT, Nat.reduceMul]; with_reducible rfl) (by first | trivial | omega | (simp +contextual [inI64] <;> omega)) ?_
  refine wpA_cond rfl (fun hd => ?_) (fun hd => ?_)
  · have h0 := hd
    refine wpA_reg [2] [] rfl (by simp only [go_sem, Nat.reduceBEq, Nat.reduceAdd, Nat.reduceEqDiff, Nat.reduceLeDiff, Nat.reduceLT, Nat.reduceMul]; with_reducible rfl) (by first | trivial | omega | (simp +contextual [inI64] <;> omega)) ?_
    refine wpA_ret (tR ?_)
    refine endD (.inr rfl) (by simp only [go_sem, Nat.reduceBEq, Nat.reduceAdd, Nat.reduceEqDiff, Nat.reduceLeDiff, Nat.reduceLT, Nat.reduceMul]; with_reducible rfl) ?_
    simp only [go_sem]
    rw [refR, head7, hd]; rfl
  · have h0 := hd
    have hb := lastP_small (logR_small (walR_log (e7 h0)))
    refine wpA_skip ?_
    refine tN ?_
    refine wpA_seq ?_
    refine wpA_reg [1, 55] [usePure (f30_walk (n.role) (0) (2)) rfl cb30, usePure (f30_walk (n.lead) (0) (9)) rfl cb30, usePure (f30_walk (n.timer) (0) (1048576)) rfl cb30, usePure (f33_walk n.got) rfl cb33] rfl (by simp only [go_sem, Nat.reduceBEq, Nat.reduceAdd, Nat.reduceEqDiff, Nat.reduceLeDiff, Nat.reduceLT, Nat.reduceMul]; with_reducible rfl) (by first | trivial | omega | (simp +contextual [inI64] <;> omega)) ?_
    refine wpA_cond rfl (fun hd => ?_) (fun hd => ?_)
    · have h1 := hd
      refine wpA_reg [2] [] rfl (by simp only [go_sem, Nat.reduceBEq, Nat.reduceAdd, Nat.reduceEqDiff, Nat.reduceLeDiff, Nat.reduceLT, Nat.reduceMul]; with_reducible rfl) (by first | trivial | omega | (simp +contextual [inI64] <;> omega)) ?_
      refine wpA_ret (tR ?_)
      refine endD (.inr rfl) (by simp only [go_sem, Nat.reduceBEq, Nat.reduceAdd, Nat.reduceEqDiff, Nat.reduceLeDiff, Nat.reduceLT, Nat.reduceMul]; with_reducible rfl) ?_
      simp only [go_sem]
      rw [refR, head7b, hd]; simp
    · have h1 := hd
      refine wpA_skip ?_
      refine tN ?_
      refine wpA_reg [1, 3] [usePure (f34_walk n.hard.log (logR_small (walR_log (e7 h0)))) rfl cb34] rfl (by simp only [go_sem, Nat.reduceBEq, Nat.reduceAdd, Nat.reduceEqDiff, Nat.reduceLeDiff, Nat.reduceLT, Nat.reduceMul]; with_reducible rfl) (by first | trivial | omega | (simp +contextual [inI64] <;> omega)) ?_
      refine wpA_seq ?_
      refine wpA_reg [1, 3, 61, 62, 63] [] rfl (by simp only [go_sem, Nat.reduceBEq, Nat.reduceAdd, Nat.reduceEqDiff, Nat.reduceLeDiff, Nat.reduceLT, Nat.reduceMul]; with_reducible rfl) (by first | trivial | omega | (simp +contextual [inI64] <;> omega)) ?_
      refine wpA_block ?_
      refine wpA_loop (fun j : Nat => ⟨[(1, .ptr 0 0), (3, .d (i64 (lastP n.hard.log))), (61, .d (peers n.peers)), (62, .d (i64 n.peers.length)), (63, .d (i64 j))], enum [.var 30 (nodeV n)] 0, 1⟩) (fun j => j ≤ n.peers.length ∧ allTo (okPr n) j = true) (fun j => n.peers.length - j) 0 (weak_of [0] trivial (by simp) (by simp only [go_sem, Int.natCast_zero, Nat.reduceBEq, Nat.reduceAdd, Nat.reduceEqDiff, Nat.reduceLeDiff, Nat.reduceLT, Nat.reduceMul]) (by simp only [go_sem, Int.natCast_zero, Nat.reduceBEq, Nat.reduceAdd, Nat.reduceEqDiff, Nat.reduceLeDiff, Nat.reduceLT, Nat.reduceMul])) ⟨Nat.zero_le _, rfl⟩ (fun j hj => ?_)
      obtain ⟨hj, hjv⟩ := hj
      refine wpA_reg [1, 3, 61, 62, 63, 64] [] rfl (by simp only [go_sem, Nat.reduceBEq, Nat.reduceAdd, Nat.reduceEqDiff, Nat.reduceLeDiff, Nat.reduceLT, Nat.reduceMul]; with_reducible rfl) (by first | trivial | omega | (simp +contextual [inI64] <;> omega)) ?_
      refine wpA_seq ?_
      refine wpA_cond rfl (fun hc => ?_) (fun hc => ?_)
      · have hc : j < n.peers.length := by simpa using hc
        have hg := peers_getD n.peers hc
        have e : ((j : Int) - 1).toNat = j - 1 := by omega
        have hg2 := peers_getD n.peers (j := j - 1) (by omega)
        have hl := peers_len n.peers
        refine wpA_skip ?_
        refine tN ?_
        refine wpA_seq ?_
        refine wpA_block ?_
        refine wpA_reg [1, 3, 4, 5, 61, 62, 63] [] rfl (by simp only [go_sem, hg, hg2, e, encPeer, Nat.reduceBEq, Nat.reduceAdd, Nat.reduceEqDiff, Nat.reduceLeDiff, Nat.reduceLT, Nat.reduceMul]; with_reducible rfl) (by first | trivial | omega | (simp +contextual [inI64, hl, hc, inB] <;> omega)) ?_
        refine wpA_regD [[5], [68], [69], [70], [71], [5, 72], [72, 73], [1, 72], [72, 75], [72, 74, 76], [72, 77], [78], [4, 79], [79, 80], [79, 81], [5, 82], [82, 83], [1, 82], [82, 85], [4, 82], [82, 87], [82, 86, 88], [82, 89], [82, 90], [82, 84, 91], [79, 82, 92], [79, 93], [94], [5, 95], [95, 96], [3, 95], [95, 98], [95, 97, 99], [95, 100], [95, 101], [102], [5, 103], [103, 104], [5, 103], [103, 106], [103, 107], [103, 105, 108], [103, 109], [103, 110]] [1, 3, 61, 62, 63, 111] [usePure (f30_walk ((pAt n.peers j).id) (1) (9)) rfl cb30, usePure (f30_walk ((pAt n.peers j).next) (1) ((lastP n.hard.log) + 1)) rfl cb30, usePure (f30_walk ((pAt n.peers j).mtch) (0) (((pAt n.peers j).next) - 1)) rfl cb30] mx rfl (by simp only [go_sem, hg, hg2, e, encPeer, Nat.reduceBEq, Nat.reduceAdd, Nat.reduceEqDiff, Nat.reduceLeDiff, Nat.reduceLT, Nat.reduceMul]; with_reducible rfl) (by kernel_rfl) (by first | trivial | omega | (simp +contextual [inI64, hl, hc, inB] <;> omega)) ?_
        refine wpA_cond rfl (fun hd => ?_) (fun hd => ?_)
        · have h2 := hd
          refine wpA_reg [2] [] rfl (by simp only [go_sem, hg, hg2, e, encPeer, Nat.reduceBEq, Nat.reduceAdd, Nat.reduceEqDiff, Nat.reduceLeDiff, Nat.reduceLT, Nat.reduceMul]; with_reducible rfl) (by first | trivial | omega | (simp +contextual [inI64, hl, hc, inB] <;> omega)) ?_
          refine wpA_ret (bR (tR (tR (bR (tR ?_)))))
          refine endD (.inr rfl) (by simp only [go_sem, Nat.reduceBEq, Nat.reduceAdd, Nat.reduceEqDiff, Nat.reduceLeDiff, Nat.reduceLT, Nat.reduceMul]; with_reducible rfl) ?_
          simp only [go_sem]
          rw [refR, all_no hc (by rw [okPr, hd]; rfl), Bool.false_and, Bool.and_false, Bool.and_false]
        · have h2 := hd
          refine wpA_skip ?_
          refine bN (tN ?_)
          refine wpA_region [1, 3, 61, 62, 63] [] rfl (by simp only [go_sem, hg, hg2, e, encPeer, Nat.reduceBEq, Nat.reduceAdd, Nat.reduceEqDiff, Nat.reduceLeDiff, Nat.reduceLT, Nat.reduceMul]; with_reducible rfl) (by first | trivial | omega | (simp +contextual [inI64, hl, hc, inB] <;> omega)) ?_
          refine tN ?_
          refine ⟨j + 1, ⟨hc, ?_⟩, by omega, weak_of [0] trivial (by simp) (by simp only [go_sem, Int.natCast_add, Int.natCast_one, Nat.reduceBEq, Nat.reduceAdd, Nat.reduceEqDiff, Nat.reduceLeDiff, Nat.reduceLT, Nat.reduceMul]) (by simp only [go_sem, Int.natCast_add, Int.natCast_one, Nat.reduceBEq, Nat.reduceAdd, Nat.reduceEqDiff, Nat.reduceLeDiff, Nat.reduceLT, Nat.reduceMul])⟩
          exact all_step hjv (by rw [okPr, hd]; rfl)
      · have hc : j = n.peers.length := by simp at hc; omega
        subst hc
        have hall0 := hjv
        refine wpA_exit (tE (tE (bE ?_)))
        refine tN ?_
        refine wpA_reg [2] [usePure (f30_walk (n.commit) (n.hard.log.base) (lastP n.hard.log)) rfl cb30] rfl (by simp only [go_sem, Nat.reduceBEq, Nat.reduceAdd, Nat.reduceEqDiff, Nat.reduceLeDiff, Nat.reduceLT, Nat.reduceMul]; with_reducible rfl) (by first | trivial | omega | (simp +contextual [inI64] <;> omega)) ?_
        refine wpA_ret ?_
        refine endD (.inr rfl) (by simp only [go_sem, Nat.reduceBEq, Nat.reduceAdd, Nat.reduceEqDiff, Nat.reduceLeDiff, Nat.reduceLT, Nat.reduceMul]; with_reducible rfl) ?_
        simp only [go_sem]
        rw [refR, hall0, head7, head7b, h0, h1]; simp [inB]

end Go.Abs
