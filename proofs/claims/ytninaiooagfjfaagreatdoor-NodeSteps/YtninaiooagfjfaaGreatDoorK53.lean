/- The row and the tied card of NodeSteps: for every input the law returns true; the input reads as it did. No conditions. -/
import Derived.Test.YtninaiooagfjfaaGreatDoorK52
import Derived.SevenTiedAt
set_option linter.unusedVariables false
set_option linter.unusedSimpArgs false
namespace Go.Abs
open Go Go.RowKit Go.Proofs Go.Proofs.YtninaiooagfjfaaGreatDoor

/-- The law, called in whatever world that holds the tables. -/
theorem f4_calls {H : Type} {enc : TypeId × Value → H} {W : World} {base : Nat} {cs : Array Value} {x : Int} {d0 : DataW H} {p0 : List MemPlace} {spare : Nat → Bool} {held : Bool}
    (hL : laidMetH Tryz.prog Rows.nodeStepsRow.laid W) (hs : W.ShapedOpen Tryz.prog) (h0 : DataW.Trod enc Tryz.prog W base spare held 30 (.agg cs) d0 p0) :
    Calls Tryz.prog 4 #[.agg cs, .int .i64 x] W fun e W' => e = .returned (.bool true) ∧ Below W.heap.size W W' := by
  let m : Nat → Value := fun _ => undef
  have hC : ∀ a v, W.cell? a = some v → Cw (fun g => g < 6) (enum [] 0) m W a v := fun a v h => ⟨h, fun h => h, fun t b hb => by simp [enum, lk] at hb⟩
  obtain ⟨n, hS0, hn⟩ := node_reads hC h0
  refine (f4_walk n x hS0 W m 0 (fun g => g < 6) #[.agg cs, .int .i64 x] (good_of hL hs) (rel_begin (far_of hs) m 0) rfl ?_).mono fun e W' he => ?_
  · intro k x u hx hu
    match k with
    | 0 => simp at hx hu; subst hx hu; exact hn m _
    | 1 => simp at hx hu; subst hx hu; exact .d (.lit _)
    | k + 2 => simp at hx
  · obtain ⟨u, m', U', rfl, H', hu⟩ := he
    obtain rfl := hu.lit_inv
    refine ⟨rfl, H'.keeps.os, H'.keeps.tape, H'.keeps.output, H'.keeps.size, fun k hk => H'.keeps.block k hk fun t ht => absurd ht (Nat.not_lt_zero _)⟩
end Go.Abs

namespace Go.Proofs.YtninaiooagfjfaaGreatDoor.NodeStepsRow
open Go.ChangeShapes Go.WideShapes Go.ChangeAt Go.RowKit
theorem own : ownKnob Tryz.prog.godebug = none := by kernel_rfl
theorem laidOut : laidOutB Tryz.prog = true := by kernel_rfl
set_option maxRecDepth 100000 in
theorem contract (H : Type) (enc : TypeId × Value → H) (W : World) (base : Nat) (args : Array Value) (ds gs : List (DataW H)) (before : List MemPlace)
    (hval : ∀ (j : Nat) t v, Tryz.f4.params[j]? = some t → args[j]? = some v → Value.okWide Tryz.prog W .any base t v)
    (hW : DataW.Whole enc Tryz.prog Tryz.f4.params.toList Rows.nodeStepsSpec.vars false W args.toList ds gs before) (hL : laidMetH Tryz.prog Rows.nodeStepsRow.laid W) (hS : W.ShapedOpen Tryz.prog) :
    Calls Tryz.prog 4 args W fun e W' => ∃ v, e = .returned v ∧ Rows.nodeStepsSpec.post enc Tryz.prog Tryz.f4 false true false false W args v W' := by
  have hW' := hW
  obtain ⟨p, q, hA0, hV, rfl, hfz, hnd⟩ := hW
  have hA : DataW.TrodAll enc Tryz.prog W 0 (fun _ => true) true Tryz.f4.params.toList args.toList ds p := hA0
  rw [Tryz.params4] at hA hval
  obtain ⟨v0, vs0, d0, ds0, p0, q0, hargs, rfl, rfl, h0, r0⟩ := trodAll_cons hA
  obtain ⟨v1, vs1, d1, ds1, p1, q1, rfl, rfl, rfl, h1, r1⟩ := trodAll_cons r0
  obtain ⟨rfl, rfl, rfl⟩ := trodAll_nil r1
  obtain rfl : args = #[v0, v1] := Array.toList_inj.1 hargs
  obtain ⟨rfl, rfl⟩ := trodVars_none hV
  obtain ⟨cs, rfl, _⟩ := okWide_struct Tryz.underlying30 (hval 0 30 v0 rfl rfl)
  obtain ⟨a1, rfl, rfl, rfl, w1⟩ := open_int Tryz.underlying3 (hval 1 3 v1 rfl rfl) h1
  have lt0 : ∀ x ∈ p0, x.block < W.heap.size := by obtain ⟨m, hm⟩ := h0; exact DataW.trod_lt m _ _ _ hm
  clear hA0
  refine (Go.Abs.f4_calls hL hS h0).mono fun e W' ⟨he, bel⟩ => ?_
  subst he
  exact ⟨_, rfl, _, _, _, [], _, [], hW', trodAll_mk1 (shut_bool Tryz.underlying4 _), (trodAll_cons_mk (Below.trod laidOut (by kernel_rfl) (of_decide_eq_true (by kernel_rfl)) h0 bel lt0) (trodAll_cons_mk (shut_int Tryz.underlying3 w1) trodAll_mk0)), rfl, bel.frame _, fun h => by cases h⟩
/-- An input that fits. -/
def args0 : Array Value := #[.agg #[.int .i64 0, .int .i64 0, .int .i64 0, .int .i64 0, .int .i64 0, .slice none 0 0, .string ⟨#[]⟩, .slice none 0 0, .int .i64 0, .int .i64 0, .int .i64 0, .int .i64 0, .slice none 0 0, .slice none 0 0], .int .i64 0]
set_option maxRecDepth 100000 in
theorem lifted (os : Os) (started : os.Started) (H : Type) (enc : TypeId × Value → H) (F : Stop.Interp) :
    ReturnsInHanded {} Tryz.checked os 4 .any ((OpenSpec.ofChange Rows.nodeStepsSpec).preRow enc Tryz.prog Tryz.f4 Rows.nodeStepsRow.domain false Rows.nodeStepsRow.laid) (((OpenSpec.ofChange Rows.nodeStepsSpec).at F).post enc Tryz.prog Tryz.f4 false true false false) := by
  refine returnsInHanded_of_row (C := Tryz.checked) (s := OpenSpec.ofChange Rows.nodeStepsSpec) own started (by kernel_rfl) Tryz.func4
    (witness_row_at (enc := enc) (C := Tryz.checked) false (Go.Abs.laidWorld os) args0 rfl (by kernel_rfl) (by kernel_rfl) (by kernel_rfl)
      (OpenSpec.preRow_of_B rfl 8 (by kernel_rfl) (by kernel_rfl) (Go.Abs.laid_metH os _))) ?_
  intro W base args ds gs before hval hW _ _ _ hL hS _
  exact contract H enc W base args ds gs before hval hW hL hS
theorem over : Rows.nodeStepsRow.holds Tryz.pinned (OpenSpec.ofChange Rows.nodeStepsSpec) :=
  OpenClaim.holds_of_cond 4 Tryz.f4 rfl rfl rfl rfl rfl rfl rfl ⟨rfl, rfl, rfl, rfl, rfl⟩ rfl rfl rfl rfl rfl (by kernel_rfl) Tryz.func4 (by kernel_rfl)
    (of_decide_eq_true (by kernel_rfl)) (by unfold Func.isWrapper; first | (rw [if_pos (by decide +kernel)]; kernel_rfl) | (rw [if_neg (by decide +kernel)]; exact ⟨rfl, rfl⟩))
    (fun os started H enc _ F => by rw [OpenClaim.pre_eq_preRow]; exact lifted os started H enc F)
/-- No parameter wants a stand-in. -/
theorem plain (f : FuncId) (fn : Func) (hf : Tryz.pinned.checked.prog.funcNamed "hornbook/hornbooklaw20.NodeSteps" = some f) (hfn : Tryz.pinned.checked.prog.funcs[f]? = some fn) :
    false = Tryz.pinned.checked.prog.looks [] ∧ ∀ (j : Nat) t, fn.params[j]? = some t → Tryz.pinned.checked.prog.wantsStandIn t = false := by
  obtain rfl : f = 4 := Option.some.inj ((show Tryz.prog.funcNamed "hornbook/hornbooklaw20.NodeSteps" = some 4 by kernel_rfl).symm.trans hf) |>.symm
  obtain rfl : fn = Tryz.f4 := (Option.some.inj (Tryz.func4.symm.trans hfn)).symm
  refine ⟨by kernel_rfl, fun j t ht => ?_⟩
  rw [Tryz.params4] at ht
  have hm : t ∈ [30, 3] := by simpa using Array.mem_of_getElem? ht
  have hall : ([30, 3].all fun u => !Tryz.prog.wantsStandIn u) = true := by kernel_rfl
  exact (show Tryz.prog.wantsStandIn t = false by simpa using List.all_eq_true.1 hall t hm)
end Go.Proofs.YtninaiooagfjfaaGreatDoor.NodeStepsRow
namespace Go.Proofs.YtninaiooagfjfaaGreatDoor
/-- The tied card of NodeSteps. -/
theorem nodeSteps_holds : Rows.NodeStepsCardSaid :=
  Claim7.holds_tied_plain_at .later [] _ _ _ _ NodeStepsRow.over (fun _ h => by cases h) (by kernel_rfl) (fun _ h => by cases h) nodeSteps_row_tie rfl ⟨rfl, rfl⟩ (by kernel_rfl) rfl NodeStepsRow.plain (by kernel_rfl)
end Go.Proofs.YtninaiooagfjfaaGreatDoor
