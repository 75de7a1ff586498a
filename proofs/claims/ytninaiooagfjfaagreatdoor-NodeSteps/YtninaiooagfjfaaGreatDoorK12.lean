/- The model's values as plain data: a record, a log, a server's own state, a node. No conditions. -/
import Derived.Test.YtninaiooagfjfaaGreatDoorK11
set_option linter.unusedVariables false
set_option linter.unusedSimpArgs false
namespace Go.Abs
open Go Go.RowKit Go.Proofs

structure Peer where
  id : Int
  next : Int
  mtch : Int
structure Rec where
  term : Int
  kind : Int
  data : ByteArray
structure Lg where
  base : Int
  bterm : Int
  recs : List Rec
structure Hard where
  term : Int
  vote : Int
  log : Lg
  snap : ByteArray
  voters : List Int
structure Node where
  id : Int
  hard : Hard
  role : Int
  lead : Int
  timer : Int
  commit : Int
  got : List Int
  peers : List Peer

structure Msg where
  kind : Int
  src : Int
  dst : Int
  term : Int
  ok : Bool
  index : Int
  lterm : Int
  recs : List Rec
  commit : Int
  snap : ByteArray
  voters : List Int

def i64 (n : Int) : D := .lit (.int .i64 n)
def boo (b : Bool) : D := .lit (.bool b)
def str (s : ByteArray) : D := .lit (.string s)
def encI (x : Int) : List D := [i64 x]
def ints (l : List Int) : D := .lst (l.map encI)
def encPeer (p : Peer) : List D := [i64 p.id, i64 p.next, i64 p.mtch]
def peers (l : List Peer) : D := .lst (l.map encPeer)
def encRec (r : Rec) : List D := [i64 r.term, i64 r.kind, str r.data]
def recs (l : List Rec) : D := .lst (l.map encRec)
def encMsg (m : Msg) : List D := [i64 m.kind, i64 m.src, i64 m.dst, i64 m.term, boo m.ok, i64 m.index, i64 m.lterm, recs m.recs, i64 m.commit, str m.snap, ints m.voters]
def msgs (l : List Msg) : D := .lst (l.map encMsg)
def msgV (m : Msg) : List V := [.d (i64 m.kind), .d (i64 m.src), .d (i64 m.dst), .d (i64 m.term), .d (boo m.ok), .d (i64 m.index), .d (i64 m.lterm), .d (recs m.recs), .d (i64 m.commit), .d (str m.snap), .d (ints m.voters)]
def logV (l : Lg) : List V := [.d (i64 l.base), .d (i64 l.bterm), .d (recs l.recs)]
def hardV (h : Hard) : List V := [.d (i64 h.term), .d (i64 h.vote), .d (i64 h.log.base), .d (i64 h.log.bterm), .d (recs h.log.recs), .d (str h.snap), .d (ints h.voters)]
def nodeV (n : Node) : List V := [.d (i64 n.id), .d (i64 n.hard.term), .d (i64 n.hard.vote), .d (i64 n.hard.log.base), .d (i64 n.hard.log.bterm), .d (recs n.hard.log.recs), .d (str n.hard.snap), .d (ints n.hard.voters),
  .d (i64 n.role), .d (i64 n.lead), .d (i64 n.timer), .d (i64 n.commit), .d (ints n.got), .d (peers n.peers)]

attribute [go_sem] i64 boo str ints peers recs msgs msgV logV hardV nodeV

@[simp] theorem encI_len (x : Int) : (encI x).length = 1 := rfl
@[simp] theorem encRec_len (x : Rec) : (encRec x).length = 3 := rfl
@[simp] theorem encPeer_len (x : Peer) : (encPeer x).length = 3 := rfl
@[simp] theorem encMsg_len (x : Msg) : (encMsg x).length = 11 := rfl
def mAt (l : List Msg) (j : Nat) : Msg := l.getD j ⟨0, 0, 0, 0, false, 0, 0, [], 0, ⟨#[]⟩, []⟩
theorem msgs_getD (ps : List Msg) {j : Nat} (h : j < ps.length) : (ps.map encMsg).getD j [] = encMsg (mAt ps j) := by simp [List.getD, h, mAt]
theorem msgs_len (ps : List Msg) : ∀ row ∈ ps.map encMsg, row.length = 11 := by simp
def iAt (l : List Int) (j : Nat) : Int := l.getD j 0
def rAt (l : List Rec) (j : Nat) : Rec := l.getD j ⟨0, 0, ⟨#[]⟩⟩
def pAt (l : List Peer) (j : Nat) : Peer := l.getD j ⟨0, 0, 0⟩
theorem peers_getD (ps : List Peer) {j : Nat} (h : j < ps.length) : (ps.map encPeer).getD j [] = encPeer (pAt ps j) := by simp [List.getD, h, pAt]
theorem peers_len (ps : List Peer) : ∀ row ∈ ps.map encPeer, row.length = 3 := by simp [encPeer]
theorem ints_getD (l : List Int) {j : Nat} (h : j < l.length) : (l.map encI).getD j [] = encI (iAt l j) := by simp [List.getD, h, iAt]
theorem ints_len (l : List Int) : ∀ row ∈ l.map encI, row.length = 1 := by simp [encI]
theorem recs_getD (l : List Rec) {j : Nat} (h : j < l.length) : (l.map encRec).getD j [] = encRec (rAt l j) := by simp [List.getD, h, rAt]
theorem recs_len (l : List Rec) : ∀ row ∈ l.map encRec, row.length = 3 := by simp [encRec]

/-- Lengths inside an argument. -/
theorem callsA_lenA {P : Program} {f : Nat} {args : List V} {bs : List Blk} {v : V} {bs' : List Blk} {k i : Nat} {cs : List V} {l : List (List D)} (hk : args[k]? = some (.agg cs)) (hi : cs[i]? = some (.d (.lst l))) (h : l.length ≤ 9223372036854775807 → CallsA P f args bs v bs') : CallsA P f args bs v bs' := by
  intro w m nt F us hG H hlen hargs
  have hlt : k < args.length := (List.getElem?_eq_some_iff.1 hk).1
  have hu : us[k]? = some (us[k]'(by omega)) := by simp [← hlen, hlt]
  refine h ?_ w m nt F us hG H hlen hargs
  have hr := hargs k _ _ hk hu
  generalize us[k]'(by omega) = u at hr
  cases hr with
  | agg _ vs hl hO hv =>
    have hli : i < vs.size := by rw [← hl]; exact (List.getElem?_eq_some_iff.1 hi).1
    have := hv i _ vs[i] hi (by simp [hli])
    generalize vs[i] = z at this
    cases this with
    | d hd => cases hd with
      | lst l A c sz cv hc hm => rw [← maxLen_eq]; omega

theorem mx : Tryz.prog.follows .mixedOrders = true := by kernel_rfl

/-- Does something hold below a number? -/
def allTo (ok : Nat → Bool) (n : Nat) : Bool := (List.range n).all ok
theorem all_step {ok : Nat → Bool} {j : Nat} (h : allTo ok j = true) (h2 : ok j = true) : allTo ok (j + 1) = true := by
  unfold allTo at *
  rw [List.range_succ, List.all_append, h]; simp [h2]
theorem all_no {ok : Nat → Bool} {j n : Nat} (hj : j < n) (h : ok j = false) : allTo ok n = false := List.all_eq_false.2 ⟨j, List.mem_range.2 hj, by simp [h]⟩
theorem all_spec {ok : Nat → Bool} {n : Nat} (h : allTo ok n = true) {j : Nat} (hj : j < n) : ok j = true := List.all_eq_true.1 h j (List.mem_range.2 hj)

/-- The term ahead of a record. -/
def lastT (b : Int) (l : List Rec) (j : Nat) : Int := if j = 0 then b else (rAt l (j - 1)).term
theorem lastT_zero (b : Int) (l : List Rec) : lastT b l 0 = b := rfl
theorem lastT_next (b : Int) (l : List Rec) (j : Nat) : lastT b l (j + 1) = (rAt l j).term := rfl

/-- Is a number within bounds? -/
def inB (n lo hi : Int) : Bool := decide (lo ≤ n) && decide (n ≤ hi)
theorem cb30 : callB Tryz.prog 30 = true := by kernel_rfl
theorem f30_walk (n lo hi : Int) : CallsA Tryz.prog 30 [.d (i64 n), .d (i64 lo), .d (i64 hi)] [] (.d (boo (inB n lo hi))) [] := by
  refine callsW_of (fn := Tryz.f30) [.tmp 6] Tryz.func30 rfl rfl (by show 3 ≤ 15; omega) ?_
  refine wpA_reg [0, 1, 2] [] rfl (by simp only [go_sem, Nat.reduceBEq, Nat.reduceAdd, Nat.reduceEqDiff, Nat.reduceLeDiff, Nat.reduceLT, Nat.reduceMul]; with_reducible rfl) (by simp) ?_
  refine wpA_reg [6] [] rfl (by simp only [go_sem, Nat.reduceBEq, Nat.reduceAdd, Nat.reduceEqDiff, Nat.reduceLeDiff, Nat.reduceLT, Nat.reduceMul]; with_reducible rfl) (by simp) ?_
  refine wpA_ret ?_
  refine endD (.inr rfl) (by simp only [go_sem, Nat.reduceBEq, Nat.reduceAdd, Nat.reduceEqDiff, Nat.reduceLeDiff, Nat.reduceLT, Nat.reduceMul]; with_reducible rfl) ?_
  simp only [go_sem, inB]
theorem cb54 : callB Tryz.prog 54 = true := by kernel_rfl
theorem f54_walk (n lo hi : Int) : CallsA Tryz.prog 54 [.d (i64 n), .d (i64 lo), .d (i64 hi)] [] (.d (boo (inB n lo hi))) [] := by
  refine callsW_of (fn := Tryz.f54) [.tmp 6] Tryz.func54 rfl rfl (by show 3 ≤ 15; omega) ?_
  refine wpA_reg [0, 1, 2] [] rfl (by simp only [go_sem, Nat.reduceBEq, Nat.reduceAdd, Nat.reduceEqDiff, Nat.reduceLeDiff, Nat.reduceLT, Nat.reduceMul]; with_reducible rfl) (by simp) ?_
  refine wpA_reg [6] [] rfl (by simp only [go_sem, Nat.reduceBEq, Nat.reduceAdd, Nat.reduceEqDiff, Nat.reduceLeDiff, Nat.reduceLT, Nat.reduceMul]; with_reducible rfl) (by simp) ?_
  refine wpA_ret ?_
  refine endD (.inr rfl) (by simp only [go_sem, Nat.reduceBEq, Nat.reduceAdd, Nat.reduceEqDiff, Nat.reduceLeDiff, Nat.reduceLT, Nat.reduceMul]; with_reducible rfl) ?_
  simp only [go_sem, inB]
theorem cb85 : callB Tryz.prog 85 = true := by kernel_rfl
theorem f85_walk (n lo hi : Int) : CallsA Tryz.prog 85 [.d (i64 n), .d (i64 lo), .d (i64 hi)] [] (.d (boo (inB n lo hi))) [] := by
  refine callsW_of (fn := Tryz.f85) [.tmp 6] Tryz.func85 rfl rfl (by show 3 ≤ 15; omega) ?_
  refine wpA_reg [0, 1, 2] [] rfl (by simp only [go_sem, Nat.reduceBEq, Nat.reduceAdd, Nat.reduceEqDiff, Nat.reduceLeDiff, Nat.reduceLT, Nat.reduceMul]; with_reducible rfl) (by simp) ?_
  refine wpA_reg [6] [] rfl (by simp only [go_sem, Nat.reduceBEq, Nat.reduceAdd, Nat.reduceEqDiff, Nat.reduceLeDiff, Nat.reduceLT, Nat.reduceMul]; with_reducible rfl) (by simp) ?_
  refine wpA_ret ?_
  refine endD (.inr rfl) (by simp only [go_sem, Nat.reduceBEq, Nat.reduceAdd, Nat.reduceEqDiff, Nat.reduceLeDiff, Nat.reduceLT, Nat.reduceMul]; with_reducible rfl) ?_
  simp only [go_sem, inB]
theorem cb91 : callB Tryz.prog 91 = true := by kernel_rfl
theorem f91_walk (n lo hi : Int) : CallsA Tryz.prog 91 [.d (i64 n), .d (i64 lo), .d (i64 hi)] [] (.d (boo (inB n lo hi))) [] := by
  refine callsW_of (fn := Tryz.f91) [.tmp 6] Tryz.func91 rfl rfl (by show 3 ≤ 15; omega) ?_
  refine wpA_reg [0, 1, 2] [] rfl (by simp only [go_sem, Nat.reduceBEq, Nat.reduceAdd, Nat.reduceEqDiff, Nat.reduceLeDiff, Nat.reduceLT, Nat.reduceMul]; with_reducible rfl) (by simp) ?_
  refine wpA_reg [6] [] rfl (by simp only [go_sem, Nat.reduceBEq, Nat.reduceAdd, Nat.reduceEqDiff, Nat.reduceLeDiff, Nat.reduceLT, Nat.reduceMul]; with_reducible rfl) (by simp) ?_
  refine wpA_ret ?_
  refine endD (.inr rfl) (by simp only [go_sem, Nat.reduceBEq, Nat.reduceAdd, Nat.reduceEqDiff, Nat.reduceLeDiff, Nat.reduceLT, Nat.reduceMul]; with_reducible rfl) ?_
  simp only [go_sem, inB]
theorem cb110 : callB Tryz.prog 110 = true := by kernel_rfl
theorem f110_walk (n lo hi : Int) : CallsA Tryz.prog 110 [.d (i64 n), .d (i64 lo), .d (i64 hi)] [] (.d (boo (inB n lo hi))) [] := by
  refine callsW_of (fn := Tryz.f110) [.tmp 6] Tryz.func110 rfl rfl (by show 3 ≤ 15; omega) ?_
  refine wpA_reg [0, 1, 2] [] rfl (by simp only [go_sem, Nat.reduceBEq, Nat.reduceAdd, Nat.reduceEqDiff, Nat.reduceLeDiff, Nat.reduceLT, Nat.reduceMul]; with_reducible rfl) (by simp) ?_
  refine wpA_reg [6] [] rfl (by simp only [go_sem, Nat.reduceBEq, Nat.reduceAdd, Nat.reduceEqDiff, Nat.reduceLeDiff, Nat.reduceLT, Nat.reduceMul]; with_reducible rfl) (by simp) ?_
  refine wpA_ret ?_
  refine endD (.inr rfl) (by simp only [go_sem, Nat.reduceBEq, Nat.reduceAdd, Nat.reduceEqDiff, Nat.reduceLeDiff, Nat.reduceLT, Nat.reduceMul]; with_reducible rfl) ?_
  simp only [go_sem, inB]
end Go.Abs
