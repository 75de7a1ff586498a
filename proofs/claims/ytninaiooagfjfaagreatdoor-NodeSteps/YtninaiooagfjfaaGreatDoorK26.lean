/- Walks: a builder's writings. No conditions. -/
import Derived.Test.YtninaiooagfjfaaGreatDoorK25
set_option linter.unusedVariables false
set_option linter.unusedSimpArgs false
set_option maxRecDepth 20000
namespace Go.Abs
open Go Go.RowKit Go.Proofs

theorem bytesOf_one (c : UInt8) : bytesOf [[.lit (.int .u8 (c.toNat : Nat))]] = ⟨#[c]⟩ := by simp [bytesOf, byD]
theorem rowsOf_one (c : UInt8) : rowsOf ⟨#[c]⟩ = [[.lit (.int .u8 (c.toNat : Nat))]] := by simp [rowsOf]
theorem size_one (c : UInt8) : (⟨#[c]⟩ : ByteArray).size = 1 := rfl
attribute [go_sem] Nat.beq_refl bytesOf_one rowsOf_one size_one nilP nilS
theorem cb140 : callB Tryz.prog 140 = true := by kernel_rfl
theorem f140_walk (s : ByteArray) : CallsA Tryz.prog 140 [.ptr 0 0] [.var 138 [.ptr 0 0, .own 1], .inv (ByI 5 s)] (.tup []) [.var 138 [.ptr 0 0, .own 1], .inv (ByI 5 s)] := by
  refine callsW_of (fn := Tryz.f140) [] Tryz.func140 rfl rfl (by show 1 ≤ 20; omega) ?_
  refine wpA_reg [0, 6] [] rfl (by simp only [go_sem, Nat.reduceBEq, Nat.reduceAdd, Nat.reduceEqDiff, Nat.reduceLeDiff, Nat.reduceLT, Nat.reduceMul]; with_reducible rfl) (by first | trivial | omega | (simp +contextual [inI64] <;> omega)) ?_
  refine wpA_cond rfl (fun hd => ?_) (fun hd => ?_)
  · exfalso
    cases hd
  · have h0 := hd
    refine wpA_reg [19] [] rfl (by simp only [go_sem, Nat.reduceBEq, Nat.reduceAdd, Nat.reduceEqDiff, Nat.reduceLeDiff, Nat.reduceLT, Nat.reduceMul]; with_reducible rfl) (by first | trivial | omega | (simp +contextual [inI64] <;> omega)) ?_
    refine wpA_cond rfl (fun hd => ?_) (fun hd => ?_)
    · exfalso
      simp at hd
    · have h1 := hd
      refine wpA_skip ?_
      refine endB [0, 1] (.inl rfl) (by simp only [go_sem, Nat.reduceBEq, Nat.reduceAdd, Nat.reduceEqDiff, Nat.reduceLeDiff, Nat.reduceLT, Nat.reduceMul]; with_reducible rfl) (by simp [firsts]) (by simp) (by simp only [go_sem, Nat.reduceBEq, Nat.reduceAdd, Nat.reduceEqDiff, Nat.reduceLeDiff, Nat.reduceLT, Nat.reduceMul]) ?_
      simp only [go_sem]

theorem cb116 : callB Tryz.prog 116 = true := by kernel_rfl
theorem f116_walk (s : ByteArray) (c : UInt8) (hs : s.size + 1 ≤ 140737488355328) : CallsA Tryz.prog 116 [.ptr 0 0, .d (.lit (.int .u8 (c.toNat : Nat)))] [.var 138 [.ptr 0 0, .own 1], .inv (ByI 5 s)] (.d (.lit .nilIface)) [.var 138 [.ptr 0 0, .own 2], .dead, .inv (ByI 5 (s ++ ⟨#[c]⟩))] := by
  refine callsW_of (fn := Tryz.f116) [.tmp 4] Tryz.func116 rfl rfl (by show 2 ≤ 17; omega) ?_
  refine wpA_reg [0, 1] [] rfl (by simp only [go_sem, Nat.reduceBEq, Nat.reduceAdd, Nat.reduceEqDiff, Nat.reduceLeDiff, Nat.reduceLT, Nat.reduceMul]; with_reducible rfl) (by first | trivial | omega | (simp +contextual [inI64] <;> omega)) ?_
  refine wpA_reg [0, 1] [useAt [0, 1] (f140_walk s) (id rfl) (id rfl) cb140] rfl (by simp only [go_sem, Nat.reduceBEq, Nat.reduceAdd, Nat.reduceEqDiff, Nat.reduceLeDiff, Nat.reduceLT, Nat.reduceMul]; with_reducible rfl) (by first | trivial | omega | (simp +contextual [inI64] <;> omega)) ?_
  refine wpA_reg [] [] rfl (by simp only [go_sem, Nat.reduceBEq, Nat.reduceAdd, Nat.reduceEqDiff, Nat.reduceLeDiff, Nat.reduceLT, Nat.reduceMul]; with_reducible rfl) (by first | trivial | omega | (simp +contextual [inI64] <;> omega)) ?_
  refine wpA_reg [4] [] rfl (by simp only [go_sem, Nat.reduceBEq, Nat.reduceAdd, Nat.reduceEqDiff, Nat.reduceLeDiff, Nat.reduceLT, Nat.reduceMul]; with_reducible rfl) (by first | trivial | omega | (simp +contextual [inI64] <;> omega)) ?_
  refine wpA_ret ?_
  refine endB [0, 1, 12] (.inr rfl) (by simp only [go_sem, Nat.reduceBEq, Nat.reduceAdd, Nat.reduceEqDiff, Nat.reduceLeDiff, Nat.reduceLT, Nat.reduceMul]; with_reducible rfl) (by simp [firsts]) (by simp) (by simp only [go_sem, Nat.reduceBEq, Nat.reduceAdd, Nat.reduceEqDiff, Nat.reduceLeDiff, Nat.reduceLT, Nat.reduceMul]) ?_
  simp only [go_sem]

theorem f116_nil (c : UInt8) : CallsA Tryz.prog 116 [.ptr 0 0, .d (.lit (.int .u8 (c.toNat : Nat)))] [.var 138 [nilP, nilS]] (.d (.lit .nilIface)) [.var 138 [.ptr 0 0, .own 1], .inv (ByI 5 ⟨#[c]⟩)] := by
  refine callsW_of (fn := Tryz.f116) [.tmp 4] Tryz.func116 rfl rfl (by show 2 ≤ 17; omega) ?_
  refine wpA_reg [0, 1] [] rfl (by simp only [go_sem, Nat.reduceBEq, Nat.reduceAdd, Nat.reduceEqDiff, Nat.reduceLeDiff, Nat.reduceLT, Nat.reduceMul]; with_reducible rfl) (by first | trivial | omega | (simp +contextual [inI64] <;> omega)) ?_
  refine wpA_reg [0, 1] [useAt [0] f140_nil rfl rfl cb140] rfl (by simp only [go_sem, Nat.reduceBEq, Nat.reduceAdd, Nat.reduceEqDiff, Nat.reduceLeDiff, Nat.reduceLT, Nat.reduceMul]; with_reducible rfl) (by first | trivial | omega | (simp +contextual [inI64] <;> omega)) ?_
  refine wpA_reg [] [] rfl (by simp only [go_sem, Nat.reduceBEq, Nat.reduceAdd, Nat.reduceEqDiff, Nat.reduceLeDiff, Nat.reduceLT, Nat.reduceMul]; with_reducible rfl) (by first | trivial | omega | (simp +contextual [inI64] <;> omega)) ?_
  refine wpA_reg [4] [] rfl (by simp only [go_sem, Nat.reduceBEq, Nat.reduceAdd, Nat.reduceEqDiff, Nat.reduceLeDiff, Nat.reduceLT, Nat.reduceMul]; with_reducible rfl) (by first | trivial | omega | (simp +contextual [inI64] <;> omega)) ?_
  refine wpA_ret ?_
  refine endB [0, 11] (.inr rfl) (by simp only [go_sem, Nat.reduceBEq, Nat.reduceAdd, Nat.reduceEqDiff, Nat.reduceLeDiff, Nat.reduceLT, Nat.reduceMul]; with_reducible rfl) (by simp [firsts]) (by simp) (by simp only [go_sem, Nat.reduceBEq, Nat.reduceAdd, Nat.reduceEqDiff, Nat.reduceLeDiff, Nat.reduceLT, Nat.reduceMul]) ?_
  simp only [go_sem]

theorem cb113 : callB Tryz.prog 113 = true := by kernel_rfl
theorem f113_walk (s x : ByteArray) (hs : s.size + x.size ≤ 140737488355328) : CallsA Tryz.prog 113 [.ptr 0 0, .d (str x)] [.var 138 [.ptr 0 0, .own 1], .inv (ByI 5 s)] (.tup [.d (i64 x.size), .d (.lit .nilIface)]) [.var 138 [.ptr 0 0, .own 2], .dead, .inv (ByI 5 (s ++ x))] := by
  refine callsW_of (fn := Tryz.f113) [.tmp 4, .tmp 5] Tryz.func113 rfl rfl (by show 2 ≤ 19; omega) ?_
  refine wpA_reg [0, 1] [] rfl (by simp only [go_sem, Nat.reduceBEq, Nat.reduceAdd, Nat.reduceEqDiff, Nat.reduceLeDiff, Nat.reduceLT, Nat.reduceMul]; with_reducible rfl) (by first | trivial | omega | (simp +contextual [inI64] <;> omega)) ?_
  refine wpA_reg [0, 1] [useAt [0, 1] (f140_walk s) (id rfl) (id rfl) cb140] rfl (by simp only [go_sem, Nat.reduceBEq, Nat.reduceAdd, Nat.reduceEqDiff, Nat.reduceLeDiff, Nat.reduceLT, Nat.reduceMul]; with_reducible rfl) (by first | trivial | omega | (simp +contextual [inI64] <;> omega)) ?_
  refine wpA_reg [1] [] rfl (by simp only [go_sem, Nat.reduceBEq, Nat.reduceAdd, Nat.reduceEqDiff, Nat.reduceLeDiff, Nat.reduceLT, Nat.reduceMul]; with_reducible rfl) (by first | trivial | omega | (simp +contextual [inI64] <;> omega)) ?_
  refine wpA_reg [4, 5] [] rfl (by simp only [go_sem, Nat.reduceBEq, Nat.reduceAdd, Nat.reduceEqDiff, Nat.reduceLeDiff, Nat.reduceLT, Nat.reduceMul]; with_reducible rfl) (by first | trivial | omega | (simp +contextual [inI64] <;> omega)) ?_
  refine wpA_ret ?_
  refine endB [0, 1, 12] (.inr rfl) (by simp only [go_sem, Nat.reduceBEq, Nat.reduceAdd, Nat.reduceEqDiff, Nat.reduceLeDiff, Nat.reduceLT, Nat.reduceMul]; with_reducible rfl) (by simp [firsts]) (by simp) (by simp only [go_sem, Nat.reduceBEq, Nat.reduceAdd, Nat.reduceEqDiff, Nat.reduceLeDiff, Nat.reduceLT, Nat.reduceMul]) ?_
  simp only [go_sem]

end Go.Abs
