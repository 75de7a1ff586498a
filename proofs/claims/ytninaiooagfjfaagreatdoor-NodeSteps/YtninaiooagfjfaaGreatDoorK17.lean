/- Walks: nodes and messages that are alike, small nodes. No conditions. -/
import Derived.Test.YtninaiooagfjfaaGreatDoorK16
set_option linter.unusedVariables false
set_option linter.unusedSimpArgs false
set_option maxRecDepth 20000
namespace Go.Abs
open Go Go.RowKit Go.Proofs

def peerEq (a b : Peer) : Bool := decide (a.id = b.id) && (decide (a.next = b.next) && decide (a.mtch = b.mtch))
def okLP (a b : List Peer) (j : Nat) : Bool := peerEq (pAt a j) (pAt b j)
def headN (a b : Node) : Bool := decide (a.id ≠ b.id) || decide (a.role ≠ b.role) || decide (a.lead ≠ b.lead) || decide (a.timer ≠ b.timer) || decide (a.commit ≠ b.commit) || decide ((a.peers.length : Int) ≠ b.peers.length) || !(likeI a.got b.got) || !(likeH a.hard b.hard)
def likeN (a b : Node) : Bool := !(headN a b) && allTo (okLP a.peers b.peers) a.peers.length
def okLM (a b : List Msg) (j : Nat) : Bool := !(decide ((mAt a j).kind ≠ (mAt b j).kind) || decide ((mAt a j).src ≠ (mAt b j).src) || decide ((mAt a j).dst ≠ (mAt b j).dst) || decide ((mAt a j).term ≠ (mAt b j).term) || ((mAt a j).ok != (mAt b j).ok) || decide ((mAt a j).index ≠ (mAt b j).index) || decide ((mAt a j).lterm ≠ (mAt b j).lterm) || decide ((mAt a j).commit ≠ (mAt b j).commit) || decide ((mAt a j).snap ≠ (mAt b j).snap) || !(likeI (mAt a j).voters (mAt b j).voters) || !(likeR (mAt a j).recs (mAt b j).recs))
def likeM (a b : List Msg) : Bool := !(decide ((a.length : Int) ≠ b.length)) && allTo (okLM a b) a.length
/-- The bytes of a text and of the first records. -/
def sizeTo (n : Node) : Nat → Int
  | 0 => n.hard.snap.size
  | j + 1 => wI (sizeTo n j + (rAt n.hard.log.recs j).data.size)
theorem sizeTo_zero (n : Node) : sizeTo n 0 = n.hard.snap.size := rfl
theorem sizeTo_next (n : Node) (j : Nat) : sizeTo n (j + 1) = wI (sizeTo n j + (rAt n.hard.log.recs j).data.size) := rfl
def okS (n : Node) (j : Nat) : Bool := !(decide (30000 < sizeTo n (j + 1)) || decide (300 < (j : Int)))
def small18 (n : Node) (m : Msg) : Bool := allTo (okS n) n.hard.log.recs.length && (decide (sizeTo n n.hard.log.recs.length ≤ 30000) && decide ((m.recs.length : Int) ≤ 300))
def missA (a b : List Int) (j : Nat) : Int := ((a.take j).countP (fun x => !inL b x) : Nat)
theorem missA_zero (a b : List Int) : missA a b 0 = 0 := by simp [missA]
theorem missA_le (a b : List Int) (j : Nat) : 0 ≤ missA a b j ∧ missA a b j ≤ a.length := by
  unfold missA
  have h1 := List.countP_le_length (p := fun x => !inL b x) (l := a.take j)
  have h2 : (a.take j).length ≤ a.length := by simp; omega
  omega
theorem missA_next {a : List Int} (b : List Int) {j : Nat} (h : j < a.length) : missA a b (j + 1) = missA a b j + if inL b (iAt a j) = true then 0 else 1 := by
  unfold missA
  rw [List.take_succ_eq_append_getElem h, List.countP_append]
  have : iAt a j = a[j] := by simp [iAt, List.getD, h]
  rw [this]
  simp only [List.countP_cons, List.countP_nil]
  cases inL b a[j] <;> simp
def next16 (a b : List Int) : Bool := right a && (right b && decide (missA a b a.length + missA b a b.length = 1))
theorem cb9 : callB Tryz.prog 9 = true := by kernel_rfl
theorem f9_walk (a b : Node) : CallsA Tryz.prog 9 [.agg (nodeV a), .agg (nodeV b)] [] (.d (boo (likeN a b))) [] := by
  refine callsA_lenA (k := 0) (i := 13) rfl rfl fun hlen => ?_
  rw [List.length_map] at hlen
  refine callsW_of (fn := Tryz.f9) [.tmp 4] Tryz.func9 rfl rfl (by show 2 ≤ 82; omega) ?_
  refine wpA_reg [2, 3] [] rfl (by simp only [go_sem, Nat.reduceBEq, Nat.reduceAdd, Nat.reduceEqDiff, Nat.reduceLeDiff, Nat.reduceLT, Nat.reduceMul]; with_reducible rfl) (by first | trivial | omega | (simp +contextual [inI64] <;> omega)) ?_
  refine wpA_seq ?_
  refine wpA_reg [2, 3, 63] [usePure (f36_walk a.got b.got) rfl cb36, usePure (f37_walk a.hard b.hard) rfl cb37] rfl (by simp only [go_sem, Nat.reduceBEq, Nat.reduceAdd, Nat.reduceEqDiff, Nat.reduceLeDiff, Nat.reduceLT, Nat.reduceMul]; with_reducible rfl) (by first | trivial | omega | (simp +contextual [inI64] <;> omega)) ?_
  refine wpA_cond rfl (fun hd => ?_) (fun hd => ?_)
  · have h0 := hd
    refine wpA_reg [4] [] rfl (by simp only [go_sem, Nat.reduceBEq, Nat.reduceAdd, Nat.reduceEqDiff, Nat.reduceLeDiff, Nat.reduceLT, Nat.reduceMul]; with_reducible rfl) (by first | trivial | omega | (simp +contextual [inI64] <;> omega)) ?_
    refine wpA_ret (tR ?_)
    refine endD (.inr rfl) (by simp only [go_sem, Nat.reduceBEq, Nat.reduceAdd, Nat.reduceEqDiff, Nat.reduceLeDiff, Nat.reduceLT, Nat.reduceMul]; with_reducible rfl) ?_
    simp only [go_sem]
    rw [likeN, headN, hd]; rfl
  · have h0 := hd
    have hab : a.peers.length = b.peers.length := by simp at hd; omega
    refine wpA_skip ?_
    refine tN ?_
    refine wpA_seq ?_
    refine wpA_reg [2, 3, 66, 67] [] rfl (by simp only [go_sem, Nat.reduceBEq, Nat.reduceAdd, Nat.reduceEqDiff, Nat.reduceLeDiff, Nat.reduceLT, Nat.reduceMul]; with_reducible rfl) (by first | trivial | omega | (simp +contextual [inI64] <;> omega)) ?_
    refine wpA_block ?_
    refine wpA_loop (fun j : Nat => ⟨[(2, .ptr 0 0), (3, .ptr 1 0), (66, .d (i64 a.peers.length)), (67, .d (i64 j))], enum [.var 30 (nodeV a), .var 30 (nodeV b)] 0, 2⟩) (fun j => j ≤ a.peers.length ∧ allTo (okLP a.peers b.peers) j = true) (fun j => a.peers.length - j) 0 (weak_of [0, 1] trivial (by simp) (by simp only [go_sem, Int.natCast_zero, Nat.reduceBEq, Nat.reduceAdd, Nat.reduceEqDiff, Nat.reduceLeDiff, Nat.reduceLT, Nat.reduceMul]) (by simp only [go_sem, Int.natCast_zero, Nat.reduceBEq, Nat.reduceAdd, Nat.reduceEqDiff, Nat.reduceLeDiff, Nat.reduceLT, Nat.reduceMul])) ⟨Nat.zero_le _, rfl⟩ (fun j hj => ?_)
    obtain ⟨hj, hjv⟩ := hj
    refine wpA_reg [2, 3, 66, 67, 68] [] rfl (by simp only [go_sem, Nat.reduceBEq, Nat.reduceAdd, Nat.reduceEqDiff, Nat.reduceLeDiff, Nat.reduceLT, Nat.reduceMul]; with_reducible rfl) (by first | trivial | omega | (simp +contextual [inI64] <;> omega)) ?_
    refine wpA_seq ?_
    refine wpA_cond rfl (fun hc => ?_) (fun hc => ?_)
    · have hc : j < a.peers.length := by simpa using hc
      have hg := peers_getD a.peers hc
      have e : ((j : Int) - 1).toNat = j - 1 := by omega
      have hg2 := peers_getD a.peers (j := j - 1) (by omega)
      have hl := peers_len a.peers
      have hlx : j < b.peers.length := by omega
      have hgB := peers_getD b.peers hlx
      have hlB := peers_len b.peers
      refine wpA_skip ?_
      refine tN ?_
      refine wpA_seq ?_
      refine wpA_block ?_
      refine wpA_reg [2, 3, 5, 66, 67] [] rfl (by simp only [go_sem, hg, hg2, e, encPeer, hgB, Nat.reduceBEq, Nat.reduceAdd, Nat.reduceEqDiff, Nat.reduceLeDiff, Nat.reduceLT, Nat.reduceMul]; with_reducible rfl) (by first | trivial | omega | (simp +contextual [inI64, hlB, hlx] <;> omega)) ?_
      refine wpA_regD [[2], [70], [5], [71, 72], [73], [3], [75], [5], [76, 77], [78], [74, 79]] [2, 3, 66, 67, 80] [] mx rfl (by simp only [go_sem, hg, hg2, e, encPeer, hgB, Nat.reduceBEq, Nat.reduceAdd, Nat.reduceEqDiff, Nat.reduceLeDiff, Nat.reduceLT, Nat.reduceMul]; with_reducible rfl) (by kernel_rfl) (by first | trivial | omega | (simp +contextual [inI64, hlB, hlx] <;> omega)) ?_
      refine wpA_cond rfl (fun hd => ?_) (fun hd => ?_)
      · have h1 := hd
        refine wpA_reg [4] [] rfl (by simp only [go_sem, hg, hg2, e, encPeer, hgB, Nat.reduceBEq, Nat.reduceAdd, Nat.reduceEqDiff, Nat.reduceLeDiff, Nat.reduceLT, Nat.reduceMul]; with_reducible rfl) (by first | trivial | omega | (simp +contextual [inI64, hlB, hlx] <;> omega)) ?_
        refine wpA_ret (bR (tR (tR (bR (tR ?_)))))
        refine endD (.inr rfl) (by simp only [go_sem, Nat.reduceBEq, Nat.reduceAdd, Nat.reduceEqDiff, Nat.reduceLeDiff, Nat.reduceLT, Nat.reduceMul]; with_reducible rfl) ?_
        simp only [go_sem]
        rw [likeN, all_no hc (bfalse fun h => by simp [okLP, peerEq] at h; simp [h] at hd), Bool.and_false]
      · have h1 := hd
        refine wpA_skip ?_
        refine bN (tN ?_)
        refine wpA_region [2, 3, 66, 67] [] rfl (by simp only [go_sem, hg, hg2, e, encPeer, hgB, Nat.reduceBEq, Nat.reduceAdd, Nat.reduceEqDiff, Nat.reduceLeDiff, Nat.reduceLT, Nat.reduceMul]; with_reducible rfl) (by first | trivial | omega | (simp +contextual [inI64, hlB, hlx] <;> omega)) ?_
        refine tN ?_
        refine ⟨j + 1, ⟨hc, ?_⟩, by omega, weak_of [0, 1] trivial (by simp) (by simp only [go_sem, Int.natCast_add, Int.natCast_one, Nat.reduceBEq, Nat.reduceAdd, Nat.reduceEqDiff, Nat.reduceLeDiff, Nat.reduceLT, Nat.reduceMul]) (by simp only [go_sem, Int.natCast_add, Int.natCast_one, Nat.reduceBEq, Nat.reduceAdd, Nat.reduceEqDiff, Nat.reduceLeDiff, Nat.reduceLT, Nat.reduceMul])⟩
        exact all_step hjv (by rw [okLP]; simpa [peerEq] using hd)
    · have hc : j = a.peers.length := by simp at hc; omega
      subst hc
      refine wpA_exit (tE (tE (bE ?_)))
      refine tN ?_
      refine wpA_reg [4] [] rfl (by simp only [go_sem, Nat.reduceBEq, Nat.reduceAdd, Nat.reduceEqDiff, Nat.reduceLeDiff, Nat.reduceLT, Nat.reduceMul]; with_reducible rfl) (by first | trivial | omega | (simp +contextual [inI64] <;> omega)) ?_
      refine wpA_ret ?_
      refine endD (.inr rfl) (by simp only [go_sem, Nat.reduceBEq, Nat.reduceAdd, Nat.reduceEqDiff, Nat.reduceLeDiff, Nat.reduceLT, Nat.reduceMul]; with_reducible rfl) ?_
      simp only [go_sem]
      rw [likeN, hjv, headN, h0]; rfl

theorem cb11 : callB Tryz.prog 11 = true := by kernel_rfl
theorem f11_walk (a b : List Msg) : CallsA Tryz.prog 11 [.d (msgs a), .d (msgs b)] [] (.d (boo (likeM a b))) [] := by
  refine callsA_len (k := 0) rfl fun hlen => ?_
  rw [List.length_map] at hlen
  refine callsW_of (fn := Tryz.f11) [.tmp 4] Tryz.func11 rfl rfl (by show 2 ≤ 104; omega) ?_
  refine wpA_reg [0, 1] [] rfl (by simp only [go_sem, Nat.reduceBEq, Nat.reduceAdd, Nat.reduceEqDiff, Nat.reduceLeDiff, Nat.reduceLT, Nat.reduceMul]; with_reducible rfl) (by first | trivial | omega | (simp +contextual [inI64] <;> omega)) ?_
  refine wpA_seq ?_
  refine wpA_reg [0, 1, 12] [] rfl (by simp only [go_sem, Nat.reduceBEq, Nat.reduceAdd, Nat.reduceEqDiff, Nat.reduceLeDiff, Nat.reduceLT, Nat.reduceMul]; with_reducible rfl) (by first | trivial | omega | (simp +contextual [inI64] <;> omega)) ?_
  refine wpA_cond rfl (fun hd => ?_) (fun hd => ?_)
  · have h0 := hd
    refine wpA_reg [4] [] rfl (by simp only [go_sem, Nat.reduceBEq, Nat.reduceAdd, Nat.reduceEqDiff, Nat.reduceLeDiff, Nat.reduceLT, Nat.reduceMul]; with_reducible rfl) (by first | trivial | omega | (simp +contextual [inI64] <;> omega)) ?_
    refine wpA_ret (tR ?_)
    refine endD (.inr rfl) (by simp only [go_sem, Nat.reduceBEq, Nat.reduceAdd, Nat.reduceEqDiff, Nat.reduceLeDiff, Nat.reduceLT, Nat.reduceMul]; with_reducible rfl) ?_
    simp only [go_sem]
    rw [likeM, hd]; rfl
  · have h0 := hd
    have hab : a.length = b.length := by simp at hd; omega
    refine wpA_skip ?_
    refine tN ?_
    refine wpA_seq ?_
    refine wpA_reg [0, 1, 14, 15] [] rfl (by simp only [go_sem, Nat.reduceBEq, Nat.reduceAdd, Nat.reduceEqDiff, Nat.reduceLeDiff, Nat.reduceLT, Nat.reduceMul]; with_reducible rfl) (by first | trivial | omega | (simp +contextual [inI64] <;> omega)) ?_
    refine wpA_block ?_
    refine wpA_loop (fun j : Nat => ⟨[(0, .d (msgs a)), (1, .d (msgs b)), (14, .d (i64 a.length)), (15, .d (i64 j))], [], 0⟩) (fun j => j ≤ a.length ∧ allTo (okLM a b) j = true) (fun j => a.length - j) 0 (weak_of (bs := []) [] trivial (by simp) trivial (by simp only [go_sem, Int.natCast_zero, Nat.reduceBEq])) ⟨Nat.zero_le _, rfl⟩ (fun j hj => ?_)
    obtain ⟨hj, hjv⟩ := hj
    refine wpA_reg [0, 1, 14, 15, 16] [] rfl (by simp only [go_sem, Nat.reduceBEq, Nat.reduceAdd, Nat.reduceEqDiff, Nat.reduceLeDiff, Nat.reduceLT, Nat.reduceMul]; with_reducible rfl) (by first | trivial | omega | (simp +contextual [inI64] <;> omega)) ?_
    refine wpA_seq ?_
    refine wpA_cond rfl (fun hc => ?_) (fun hc => ?_)
    · have hc : j < a.length := by simpa using hc
      have hg := msgs_getD a hc
      have e : ((j : Int) - 1).toNat = j - 1 := by omega
      have hg2 := msgs_getD a (j := j - 1) (by omega)
      have hl := msgs_len a
      have hlx : j < b.length := by omega
      have hgB := msgs_getD b hlx
      have hlB := msgs_len b
      refine wpA_skip ?_
      refine tN ?_
      refine wpA_seq ?_
      refine wpA_block ?_
      refine wpA_reg [0, 1, 5, 14, 15] [] rfl (by simp only [go_sem, hg, hg2, e, encMsg, hgB, List.append_eq, Nat.reduceBEq, Nat.reduceAdd, Nat.reduceEqDiff, Nat.reduceLeDiff, Nat.reduceLT, Nat.reduceMul]; with_reducible rfl) (by first | trivial | omega | (simp +contextual [inI64, hlB, hlx] <;> omega)) ?_
      refine wpA_reg [0, 1, 5, 6, 14, 15] [] rfl (by simp only [go_sem, hg, hg2, e, encMsg, hgB, List.append_eq, Nat.reduceBEq, Nat.reduceAdd, Nat.reduceEqDiff, Nat.reduceLeDiff, Nat.reduceLT, Nat.reduceMul]; with_reducible rfl) (by first | trivial | omega | (simp +contextual [inI64, hlB, hlx] <;> omega)) ?_
      refine wpA_reg [0, 1, 6, 7, 14, 15] [] rfl (by simp only [go_sem, hg, hg2, e, encMsg, hgB, List.append_eq, Nat.reduceBEq, Nat.reduceAdd, Nat.reduceEqDiff, Nat.reduceLeDiff, Nat.reduceLT, Nat.reduceMul]; with_reducible rfl) (by first | trivial | omega | (simp +contextual [inI64, hlB, hlx] <;> omega)) ?_
      refine wpA_reg [0, 1, 14, 15, 102] [usePure (f36_walk ((mAt a j).voters) ((mAt b j).voters)) rfl cb36, usePure (f48_walk ((mAt a j).recs) ((mAt b j).recs)) rfl cb48] rfl (by simp only [go_sem, hg, hg2, e, encMsg, hgB, List.append_eq, Nat.reduceBEq, Nat.reduceAdd, Nat.reduceEqDiff, Nat.reduceLeDiff, Nat.reduceLT, Nat.reduceMul]; with_reducible rfl) (by first | trivial | omega | (simp +contextual [inI64, hlB, hlx] <;> omega)) ?_
      refine wpA_cond rfl (fun hd => ?_) (fun hd => ?_)
      · have h1 := hd
        refine wpA_reg [4] [] rfl (by simp only [go_sem, hg, hg2, e, encMsg, hgB, List.append_eq, Nat.reduceBEq, Nat.reduceAdd, Nat.reduceEqDiff, Nat.reduceLeDiff, Nat.reduceLT, Nat.reduceMul]; with_reducible rfl) (by first | trivial | omega | (simp +contextual [inI64, hlB, hlx] <;> omega)) ?_
        refine wpA_ret (bR (tR (tR (bR (tR ?_)))))
        refine endD (.inr rfl) (by simp only [go_sem, Nat.reduceBEq, Nat.reduceAdd, Nat.reduceEqDiff, Nat.reduceLeDiff, Nat.reduceLT, Nat.reduceMul]; with_reducible rfl) ?_
        simp only [go_sem]
        rw [likeM, all_no hc (by rw [okLM, hd]; rfl), Bool.and_false]
      · have h1 := hd
        refine wpA_skip ?_
        refine bN (tN ?_)
        refine wpA_region [0, 1, 14, 15] [] rfl (by simp only [go_sem, hg, hg2, e, encMsg, hgB, List.append_eq, Nat.reduceBEq, Nat.reduceAdd, Nat.reduceEqDiff, Nat.reduceLeDiff, Nat.reduceLT, Nat.reduceMul]; with_reducible rfl) (by first | trivial | omega | (simp +contextual [inI64, hlB, hlx] <;> omega)) ?_
        refine tN ?_
        refine ⟨j + 1, ⟨hc, ?_⟩, by omega, weak_of (bs := []) [] trivial (by simp) trivial (by simp only [go_sem, Int.natCast_add, Int.natCast_one, Nat.reduceBEq])⟩
        exact all_step hjv (by rw [okLM, hd]; rfl)
    · have hc : j = a.length := by simp at hc; omega
      subst hc
      refine wpA_exit (tE (tE (bE ?_)))
      refine tN ?_
      refine wpA_reg [4] [] rfl (by simp only [go_sem, Nat.reduceBEq, Nat.reduceAdd, Nat.reduceEqDiff, Nat.reduceLeDiff, Nat.reduceLT, Nat.reduceMul]; with_reducible rfl) (by first | trivial | omega | (simp +contextual [inI64] <;> omega)) ?_
      refine wpA_ret ?_
      refine endD (.inr rfl) (by simp only [go_sem, Nat.reduceBEq, Nat.reduceAdd, Nat.reduceEqDiff, Nat.reduceLeDiff, Nat.reduceLT, Nat.reduceMul]; with_reducible rfl) ?_
      simp only [go_sem]
      rw [likeM, hjv, h0]; rfl

theorem cb5 : callB Tryz.prog 5 = true := by kernel_rfl
theorem f5_walk (n : Node) (m : Msg) : CallsA Tryz.prog 5 [.agg (nodeV n), .agg (msgV m)] [] (.d (boo (small18 n m))) [] := by
  refine callsA_lenA (k := 0) (i := 5) rfl rfl fun hlen => ?_
  rw [List.length_map] at hlen
  refine callsW_of (fn := Tryz.f5) [.tmp 4] Tryz.func5 rfl rfl (by show 2 ≤ 42; omega) ?_
  refine wpA_reg [2, 3] [] rfl (by simp only [go_sem, Nat.reduceBEq, Nat.reduceAdd, Nat.reduceEqDiff, Nat.reduceLeDiff, Nat.reduceLT, Nat.reduceMul]; with_reducible rfl) (by first | trivial | omega | (simp +contextual [inI64] <;> omega)) ?_
  refine wpA_reg [2, 3, 5] [] rfl (by simp only [go_sem, Nat.reduceBEq, Nat.reduceAdd, Nat.reduceEqDiff, Nat.reduceLeDiff, Nat.reduceLT, Nat.reduceMul]; with_reducible rfl) (by first | trivial | omega | (simp +contextual [inI64] <;> omega)) ?_
  refine wpA_seq ?_
  refine wpA_reg [3, 5, 15, 16, 17] [] rfl (by simp only [go_sem, Nat.reduceBEq, Nat.reduceAdd, Nat.reduceEqDiff, Nat.reduceLeDiff, Nat.reduceLT, Nat.reduceMul]; with_reducible rfl) (by first | trivial | omega | (simp +contextual [inI64] <;> omega)) ?_
  refine wpA_block ?_
  refine wpA_loop (fun j : Nat => ⟨[(3, .ptr 0 0), (5, .d (i64 (sizeTo n j))), (15, .d (recs n.hard.log.recs)), (16, .d (i64 n.hard.log.recs.length)), (17, .d (i64 j))], enum [.var 33 (msgV m)] 0, 1⟩) (fun j => j ≤ n.hard.log.recs.length ∧ allTo (okS n) j = true) (fun j => n.hard.log.recs.length - j) 0 (weak_of [1] trivial (by simp) (by simp only [go_sem, Int.natCast_zero, sizeTo_zero, Nat.reduceBEq, Nat.reduceAdd, Nat.reduceEqDiff, Nat.reduceLeDiff, Nat.reduceLT, Nat.reduceMul]) (by simp only [go_sem, Int.natCast_zero, sizeTo_zero, Nat.reduceBEq, Nat.reduceAdd, Nat.reduceEqDiff, Nat.reduceLeDiff, Nat.reduceLT, Nat.reduceMul])) ⟨Nat.zero_le _, rfl⟩ (fun j hj => ?_)
  obtain ⟨hj, hjv⟩ := hj
  refine wpA_reg [3, 5, 15, 16, 17, 18] [] rfl (by simp only [go_sem, Nat.reduceBEq, Nat.reduceAdd, Nat.reduceEqDiff, Nat.reduceLeDiff, Nat.reduceLT, Nat.reduceMul]; with_reducible rfl) (by first | trivial | omega | (simp +contextual [inI64] <;> omega)) ?_
  refine wpA_seq ?_
  refine wpA_cond rfl (fun hc => ?_) (fun hc => ?_)
  · have hc : j < n.hard.log.recs.length := by simpa using hc
    have hg := recs_getD n.hard.log.recs hc
    have e : ((j : Int) - 1).toNat = j - 1 := by omega
    have hg2 := recs_getD n.hard.log.recs (j := j - 1) (by omega)
    have hl := recs_len n.hard.log.recs
    refine wpA_skip ?_
    refine tN ?_
    refine wpA_seq ?_
    refine wpA_block ?_
    refine wpA_reg [3, 5, 6, 7, 15, 16, 17] [] rfl (by simp only [go_sem, hg, hg2, e, encRec, Nat.reduceBEq, Nat.reduceAdd, Nat.reduceEqDiff, Nat.reduceLeDiff, Nat.reduceLT, Nat.reduceMul]; with_reducible rfl) (by first | trivial | omega | (simp +contextual [inI64, hl, hc] <;> omega)) ?_
    refine wpA_regU [3, 5, 6, 15, 16, 17] [] rfl (by simp only [go_sem, hg, hg2, e, encRec, Nat.reduceBEq, Nat.reduceAdd, Nat.reduceEqDiff, Nat.reduceLeDiff, Nat.reduceLT, Nat.reduceMul]; with_reducible rfl) (by first | trivial | omega | (simp +contextual [inI64, hl, hc] <;> omega)) ?_
    refine wpA_reg [3, 5, 15, 16, 17, 32] [] rfl (by simp only [go_sem, hg, hg2, e, encRec, Nat.reduceBEq, Nat.reduceAdd, Nat.reduceEqDiff, Nat.reduceLeDiff, Nat.reduceLT, Nat.reduceMul]; with_reducible rfl) (by first | trivial | omega | (simp +contextual [inI64, hl, hc] <;> omega)) ?_
    refine wpA_cond rfl (fun hd => ?_) (fun hd => ?_)
    · have h0 := hd
      refine wpA_reg [4] [] rfl (by simp only [go_sem, hg, hg2, e, encRec, Nat.reduceBEq, Nat.reduceAdd, Nat.reduceEqDiff, Nat.reduceLeDiff, Nat.reduceLT, Nat.reduceMul]; with_reducible rfl) (by first | trivial | omega | (simp +contextual [inI64, hl, hc] <;> omega)) ?_
      refine wpA_ret (bR (tR (tR (bR (tR ?_)))))
      refine endD (.inr rfl) (by simp only [go_sem, Nat.reduceBEq, Nat.reduceAdd, Nat.reduceEqDiff, Nat.reduceLeDiff, Nat.reduceLT, Nat.reduceMul]; with_reducible rfl) ?_
      simp only [go_sem]
      rw [small18, all_no hc (by rw [okS, sizeTo_next, hd]; rfl)]; rfl
    · have h0 := hd
      refine wpA_skip ?_
      refine bN (tN ?_)
      refine wpA_region [3, 5, 15, 16, 17] [] rfl (by simp only [go_sem, hg, hg2, e, encRec, Nat.reduceBEq, Nat.reduceAdd, Nat.reduceEqDiff, Nat.reduceLeDiff, Nat.reduceLT, Nat.reduceMul]; with_reducible rfl) (by first | trivial | omega | (simp +contextual [inI64, hl, hc] <;> omega)) ?_
      refine tN ?_
      refine ⟨j + 1, ⟨hc, ?_⟩, by omega, weak_of [0] trivial (by simp) (by simp only [go_sem, Int.natCast_add, Int.natCast_one, sizeTo_next, Nat.reduceBEq, Nat.reduceAdd, Nat.reduceEqDiff, Nat.reduceLeDiff, Nat.reduceLT, Nat.reduceMul]) (by simp only [go_sem, Int.natCast_add, Int.natCast_one, sizeTo_next, Nat.reduceBEq, Nat.reduceAdd, Nat.reduceEqDiff, Nat.reduceLeDiff, Nat.reduceLT, Nat.reduceMul])⟩
      exact all_step hjv (by rw [okS, sizeTo_next, hd]; rfl)
  · have hc : j = n.hard.log.recs.length := by simp at hc; omega
    subst hc
    refine wpA_exit (tE (tE (bE ?_)))
    refine tN ?_
    refine wpA_reg [4] [] rfl (by simp only [go_sem, Nat.reduceBEq, Nat.reduceAdd, Nat.reduceEqDiff, Nat.reduceLeDiff, Nat.reduceLT, Nat.reduceMul]; with_reducible rfl) (by first | trivial | omega | (simp +contextual [inI64] <;> omega)) ?_
    refine wpA_ret ?_
    refine endD (.inr rfl) (by simp only [go_sem, Nat.reduceBEq, Nat.reduceAdd, Nat.reduceEqDiff, Nat.reduceLeDiff, Nat.reduceLT, Nat.reduceMul]; with_reducible rfl) ?_
    simp only [go_sem]
    rw [small18, hjv]; rfl

theorem cb40 : callB Tryz.prog 40 = true := by kernel_rfl
theorem f40_walk (a b : List Int) (hla : a.length ≤ 1000000) (hlb : b.length ≤ 1000000) : CallsA Tryz.prog 40 [.d (ints a), .d (ints b)] [] (.d (boo (next16 a b))) [] := by
  refine callsW_of (fn := Tryz.f40) [.tmp 4] Tryz.func40 rfl rfl (by show 2 ≤ 46; omega) ?_
  refine wpA_reg [0, 1] [] rfl (by simp only [go_sem, Nat.reduceBEq, Nat.reduceAdd, Nat.reduceEqDiff, Nat.reduceLeDiff, Nat.reduceLT, Nat.reduceMul]; with_reducible rfl) (by first | trivial | omega | (simp +contextual [inI64] <;> omega)) ?_
  refine wpA_reg [0, 1, 5] [] rfl (by simp only [go_sem, Nat.reduceBEq, Nat.reduceAdd, Nat.reduceEqDiff, Nat.reduceLeDiff, Nat.reduceLT, Nat.reduceMul]; with_reducible rfl) (by first | trivial | omega | (simp +contextual [inI64] <;> omega)) ?_
  refine wpA_seq ?_
  refine wpA_reg [0, 1, 5, 10, 11, 12] [] rfl (by simp only [go_sem, Nat.reduceBEq, Nat.reduceAdd, Nat.reduceEqDiff, Nat.reduceLeDiff, Nat.reduceLT, Nat.reduceMul]; with_reducible rfl) (by first | trivial | omega | (simp +contextual [inI64] <;> omega)) ?_
  refine wpA_block ?_
  refine wpA_loop (fun j : Nat => ⟨[(0, .d (ints a)), (1, .d (ints b)), (5, .d (i64 (missA a b j))), (10, .d (ints a)), (11, .d (i64 a.length)), (12, .d (i64 j))], [], 0⟩) (fun j => j ≤ a.length) (fun j => a.length - j) 0 (weak_of (bs := []) [] trivial (by simp) trivial (by simp only [go_sem, Int.natCast_zero, missA_zero, Nat.reduceBEq])) (Nat.zero_le _) (fun j hj => ?_)
  refine wpA_reg [0, 1, 5, 10, 11, 12, 13] [] rfl (by simp only [go_sem, Nat.reduceBEq, Nat.reduceAdd, Nat.reduceEqDiff, Nat.reduceLeDiff, Nat.reduceLT, Nat.reduceMul]; with_reducible rfl) (by first | trivial | omega | (simp +contextual [inI64] <;> omega)) ?_
  refine wpA_seq ?_
  refine wpA_cond rfl (fun hc => ?_) (fun hc => ?_)
  · have hc : j < a.length := by simpa using hc
    have hg := ints_getD a hc
    have e : ((j : Int) - 1).toNat = j - 1 := by omega
    have hg2 := ints_getD a (j := j - 1) (by omega)
    have hl := ints_len a
    refine wpA_skip ?_
    refine tN ?_
    refine wpA_seq ?_
    refine wpA_block ?_
    refine wpA_reg [0, 1, 5, 7, 10, 11, 12] [] rfl (by simp only [go_sem, hg, hg2, e, encI, Nat.reduceBEq, Nat.reduceAdd, Nat.reduceEqDiff, Nat.reduceLeDiff, Nat.reduceLT, Nat.reduceMul]; with_reducible rfl) (by first | trivial | omega | (simp +contextual [inI64, hl, hc] <;> omega)) ?_
    refine wpA_reg [0, 1, 5, 10, 11, 12, 19] [usePure (f41_walk b (iAt a j)) rfl cb41] rfl (by simp only [go_sem, hg, hg2, e, encI, Nat.reduceBEq, Nat.reduceAdd, Nat.reduceEqDiff, Nat.reduceLeDiff, Nat.reduceLT, Nat.reduceMul]; with_reducible rfl) (by first | trivial | omega | (simp +contextual [inI64, hl, hc] <;> omega)) ?_
    refine wpA_cond rfl (fun hd => ?_) (fun hd => ?_)
    · have h0 := hd
      have hn : missA a b (j + 1) = missA a b j + 1 := by rw [missA_next b hc, if_neg (by simpa using hd)]
      have hm := missA_le a b j
      refine wpA_region [0, 1, 5, 10, 11, 12] [] rfl (by simp only [go_sem, hg, hg2, e, encI, Nat.reduceBEq, Nat.reduceAdd, Nat.reduceEqDiff, Nat.reduceLeDiff, Nat.reduceLT, Nat.reduceMul]; with_reducible rfl) (by first | trivial | omega | (simp +contextual [inI64, hl, hc] <;> omega)) ?_
      refine bN (tN ?_)
      refine wpA_region [0, 1, 5, 10, 11, 12] [] rfl (by simp only [go_sem, hg, hg2, e, encI, Nat.reduceBEq, Nat.reduceAdd, Nat.reduceEqDiff, Nat.reduceLeDiff, Nat.reduceLT, Nat.reduceMul]; with_reducible rfl) (by first | trivial | omega | (simp +contextual [inI64, hl, hc] <;> omega)) ?_
      refine tN ?_
      refine ⟨j + 1, hc, by omega, weak_of (bs := []) [] trivial (by simp) trivial (by simp only [go_sem, Int.natCast_add, Int.natCast_one, hn, Int.add_assoc, Nat.reduceBEq])⟩
    · have h0 := hd
      have hn : missA a b (j + 1) = missA a b j := by rw [missA_next b hc, if_pos (by simpa using hd), Int.add_zero]
      refine wpA_skip ?_
      refine bN (tN ?_)
      refine wpA_region [0, 1, 5, 10, 11, 12] [] rfl (by simp only [go_sem, hg, hg2, e, encI, Nat.reduceBEq, Nat.reduceAdd, Nat.reduceEqDiff, Nat.reduceLeDiff, Nat.reduceLT, Nat.reduceMul]; with_reducible rfl) (by first | trivial | omega | (simp +contextual [inI64, hl, hc] <;> omega)) ?_
      refine tN ?_
      refine ⟨j + 1, hc, by omega, weak_of (bs := []) [] trivial (by simp) trivial (by simp only [go_sem, Int.natCast_add, Int.natCast_one, hn, Int.add_assoc, Nat.reduceBEq])⟩
  · have hc : j = a.length := by simp at hc; omega
    subst hc
    refine wpA_exit (tE (tE (bE ?_)))
    refine tN ?_
    refine wpA_seq ?_
    refine wpA_reg [0, 1, 5, 23, 24, 25] [] rfl (by simp only [go_sem, Nat.reduceBEq, Nat.reduceAdd, Nat.reduceEqDiff, Nat.reduceLeDiff, Nat.reduceLT, Nat.reduceMul]; with_reducible rfl) (by first | trivial | omega | (simp +contextual [inI64] <;> omega)) ?_
    refine wpA_block ?_
    refine wpA_loop (fun j : Nat => ⟨[(0, .d (ints a)), (1, .d (ints b)), (5, .d (i64 (missA a b a.length + missA b a j))), (23, .d (ints b)), (24, .d (i64 b.length)), (25, .d (i64 j))], [], 0⟩) (fun j => j ≤ b.length) (fun j => b.length - j) 0 (weak_of (bs := []) [] trivial (by simp) trivial (by simp only [go_sem, Int.natCast_zero, missA_zero, Int.add_zero, Nat.reduceBEq])) (Nat.zero_le _) (fun j hj => ?_)
    refine wpA_reg [0, 1, 5, 23, 24, 25, 26] [] rfl (by simp only [go_sem, Nat.reduceBEq, Nat.reduceAdd, Nat.reduceEqDiff, Nat.reduceLeDiff, Nat.reduceLT, Nat.reduceMul]; with_reducible rfl) (by first | trivial | omega | (simp +contextual [inI64] <;> omega)) ?_
    refine wpA_seq ?_
    refine wpA_cond rfl (fun hc => ?_) (fun hc => ?_)
    · have hc : j < b.length := by simpa using hc
      have hg := ints_getD b hc
      have e : ((j : Int) - 1).toNat = j - 1 := by omega
      have hg2 := ints_getD b (j := j - 1) (by omega)
      have hl := ints_len b
      refine wpA_skip ?_
      refine tN ?_
      refine wpA_seq ?_
      refine wpA_block ?_
      refine wpA_reg [0, 1, 5, 9, 23, 24, 25] [] rfl (by simp only [go_sem, hg, hg2, e, encI, Nat.reduceBEq, Nat.reduceAdd, Nat.reduceEqDiff, Nat.reduceLeDiff, Nat.reduceLT, Nat.reduceMul]; with_reducible rfl) (by first | trivial | omega | (simp +contextual [inI64, hl, hc] <;> omega)) ?_
      refine wpA_reg [0, 1, 5, 23, 24, 25, 32] [usePure (f41_walk a (iAt b j)) rfl cb41] rfl (by simp only [go_sem, hg, hg2, e, encI, Nat.reduceBEq, Nat.reduceAdd, Nat.reduceEqDiff, Nat.reduceLeDiff, Nat.reduceLT, Nat.reduceMul]; with_reducible rfl) (by first | trivial | omega | (simp +contextual [inI64, hl, hc] <;> omega)) ?_
      refine wpA_cond rfl (fun hd => ?_) (fun hd => ?_)
      · have h0 := hd
        have hn : missA b a (j + 1) = missA b a j + 1 := by rw [missA_next a hc, if_neg (by simpa using hd)]
        have hm := missA_le b a j
        have hm2 := missA_le a b a.length
        refine wpA_region [0, 1, 5, 23, 24, 25] [] rfl (by simp only [go_sem, hg, hg2, e, encI, Nat.reduceBEq, Nat.reduceAdd, Nat.reduceEqDiff, Nat.reduceLeDiff, Nat.reduceLT, Nat.reduceMul]; with_reducible rfl) (by first | trivial | omega | (simp +contextual [inI64, hl, hc] <;> omega)) ?_
        refine bN (tN ?_)
        refine wpA_region [0, 1, 5, 23, 24, 25] [] rfl (by simp only [go_sem, hg, hg2, e, encI, Nat.reduceBEq, Nat.reduceAdd, Nat.reduceEqDiff, Nat.reduceLeDiff, Nat.reduceLT, Nat.reduceMul]; with_reducible rfl) (by first | trivial | omega | (simp +contextual [inI64, hl, hc] <;> omega)) ?_
        refine tN ?_
        refine ⟨j + 1, hc, by omega, weak_of (bs := []) [] trivial (by simp) trivial (by simp only [go_sem, Int.natCast_add, Int.natCast_one, hn, Int.add_assoc, Nat.reduceBEq])⟩
      · have h0 := hd
        have hn : missA b a (j + 1) = missA b a j := by rw [missA_next a hc, if_pos (by simpa using hd), Int.add_zero]
        refine wpA_skip ?_
        refine bN (tN ?_)
        refine wpA_region [0, 1, 5, 23, 24, 25] [] rfl (by simp only [go_sem, hg, hg2, e, encI, Nat.reduceBEq, Nat.reduceAdd, Nat.reduceEqDiff, Nat.reduceLeDiff, Nat.reduceLT, Nat.reduceMul]; with_reducible rfl) (by first | trivial | omega | (simp +contextual [inI64, hl, hc] <;> omega)) ?_
        refine tN ?_
        refine ⟨j + 1, hc, by omega, weak_of (bs := []) [] trivial (by simp) trivial (by simp only [go_sem, Int.natCast_add, Int.natCast_one, hn, Int.add_assoc, Nat.reduceBEq])⟩
    · have hc : j = b.length := by simp at hc; omega
      subst hc
      refine wpA_exit (tE (tE (bE ?_)))
      refine tN ?_
      refine wpA_reg [4] [usePure (f32_walk a) rfl cb32, usePure (f32_walk b) rfl cb32] rfl (by simp only [go_sem, Nat.reduceBEq, Nat.reduceAdd, Nat.reduceEqDiff, Nat.reduceLeDiff, Nat.reduceLT, Nat.reduceMul]; with_reducible rfl) (by first | trivial | omega | (simp +contextual [inI64] <;> omega)) ?_
      refine wpA_ret ?_
      refine endD (.inr rfl) (by simp only [go_sem, Nat.reduceBEq, Nat.reduceAdd, Nat.reduceEqDiff, Nat.reduceLeDiff, Nat.reduceLT, Nat.reduceMul]; with_reducible rfl) ?_
      simp only [go_sem]
      rw [next16, Bool.and_assoc]

end Go.Abs
