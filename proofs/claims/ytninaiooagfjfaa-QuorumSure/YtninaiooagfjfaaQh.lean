/- The row of QuorumSure: for every input the law returns true; the input reads as it did. No conditions. -/
import Derived.Test.YtninaiooagfjfaaRows
import Derived.Test.YtninaiooagfjfaaQg
import Derived.Test.YtninaiooagfjfaaCv
import Derived.ProofKit
import Derived.OpenShut
import Derived.ChangeOld
import Derived.SizedLaws
import Derived.Carry
set_option linter.unusedVariables false
set_option linter.unusedSimpArgs false
namespace Go.Abs
open Go Go.RowKit Go.Proofs

theorem sh_ints {ds : List D} (h : Sh Try.prog 22 ds) : ∃ l : List Int, ds = [ints l] := by
  obtain ⟨l, rfl, -, hr⟩ := h.slice_inv Try.underlying22
  obtain ⟨zs, rfl, -⟩ := rows_map (q := fun _ => True) (enc' := encI) (l := l) fun row hrow => by
    obtain ⟨n, rfl, -⟩ := (hr row hrow).int_inv Try.underlying3
    exact ⟨n, rfl, trivial⟩
  exact ⟨zs, rfl⟩
theorem sh_peers {ds : List D} (h : Sh Try.prog 23 ds) : ∃ l : List Peer, ds = [peers l] := by
  obtain ⟨l, rfl, -, hr⟩ := h.slice_inv Try.underlying23
  obtain ⟨ps, rfl, -⟩ := rows_map (q := fun _ => True) (enc' := encPeer) (l := l) fun row hrow => by
    obtain ⟨b1, r1, rfl, h1, k1⟩ := ((hr row hrow).struct_inv Try.underlying29).cons_inv
    obtain ⟨a1, rfl, -⟩ := h1.int_inv Try.underlying3
    obtain ⟨b2, r2, rfl, h2, k2⟩ := k1.cons_inv
    obtain ⟨a2, rfl, -⟩ := h2.int_inv Try.underlying3
    obtain ⟨b3, r3, rfl, h3, k3⟩ := k2.cons_inv
    obtain ⟨a3, rfl, -⟩ := h3.int_inv Try.underlying3
    obtain rfl := k3.nil_inv
    exact ⟨⟨a1, a2, a3⟩, rfl, trivial⟩
  exact ⟨ps, rfl⟩

theorem ok22 : okT Try.prog 5 22 = true := by kernel_rfl
theorem ok23 : okT Try.prog 5 23 = true := by kernel_rfl

/-- The law, called in whatever world. -/
theorem f3_calls {H : Type} {enc : TypeId × Value → H} {W : World} {base : Nat} {a0 a3 : Option Addr} {n0 c0 n3 c3 : Nat} {x1 x2 : Int} {d0 d3 : DataW H} {p0 p3 : List MemPlace} {spare : Nat → Bool} {held : Bool}
    (h0 : DataW.Trod enc Try.prog W base spare held 22 (.slice a0 n0 c0) d0 p0) (h3 : DataW.Trod enc Try.prog W base spare held 23 (.slice a3 n3 c3) d3 p3) :
    Calls Try.prog 3 #[.slice a0 n0 c0, .int .i64 x1, .int .i64 x2, .slice a3 n3 c3] W fun e W' => e = .returned (.bool true) ∧ Below W.heap.size W W' := by
  have hC : ∀ (m : Nat → Value) a v, W.cell? a = some v → Cw (fun _ => False) (enum [] 0) m W a v := fun m a v h => ⟨h, fun h => h, fun t b hb => by simp [enum, lk] at hb⟩
  let m : Nat → Value := fun _ => undef
  obtain ⟨ds0, s0, r0⟩ := read_data (hC m) 5 22 _ _ ok22 h0
  obtain ⟨ds3, s3, r3⟩ := read_data (hC m) 5 23 _ _ ok23 h3
  obtain ⟨vs, rfl⟩ := sh_ints s0
  obtain ⟨ps, rfl⟩ := sh_peers s3
  refine (f3_true vs x1 x2 ps W m 0 (fun _ => False) #[.slice a0 n0 c0, .int .i64 x1, .int .i64 x2, .slice a3 n3 c3] ⟨?_, ?_, ?_, ?_, ?_, ?_, ?_, ?_, ⟨rfl, rfl, rfl, Nat.le_refl _, fun _ _ _ => rfl⟩⟩ rfl ?_).mono fun e W' he => ?_
  · intro t b ht; simp [enum, lk] at ht
  · intro t t' b b' g ht; simp [enum, lk] at ht
  · intro t b ht; simp [enum, lk] at ht
  · intro t b g ht; simp [enum, lk] at ht
  · intro t ht; rfl
  · intro t ht; exact ht
  · intro t b g ht; simp [enum, lk] at ht
  · intro g hg; exact hg.elim
  · intro k x u hx hu
    match k with
    | 0 => simp at hx hu; subst hx hu; exact .d (r0.2.2 0 _ _ rfl rfl)
    | 1 => simp at hx hu; subst hx hu; exact .d (.lit _)
    | 2 => simp at hx hu; subst hx hu; exact .d (.lit _)
    | 3 => simp at hx hu; subst hx hu; exact .d (r3.2.2 0 _ _ rfl rfl)
    | k + 4 => simp at hx
  · obtain ⟨u, m', U', rfl, H', hu⟩ := he
    obtain rfl := hu.lit_inv
    refine ⟨rfl, H'.keeps.os, H'.keeps.tape, H'.keeps.output, H'.keeps.size, fun k hk => H'.keeps.block k hk fun t ht => absurd ht (Nat.not_lt_zero _)⟩
end Go.Abs

namespace Go.Proofs.Ytninaiooagfjfaa.QuorumRow
open Go.ChangeShapes Go.WideShapes Go.ChangeAt Go.RowKit
theorem own : ownKnob Try.prog.godebug = none := by kernel_rfl
theorem laidOut : laidOutB Try.prog = true := by kernel_rfl
set_option maxRecDepth 100000 in
theorem lifted (os : Os) (started : os.Started) (H : Type) (enc : TypeId × Value → H) :
    ReturnsInHanded {} Try.checked os 3 .any (Rows.quorumSureSpec.pre6 enc Try.prog Try.f3 Rows.quorumSureRow.domain false) (Rows.quorumSureSpec.post enc Try.prog Try.f3 false true false false) := by
  refine returnsInHanded_of_change_sized (C := Try.checked) own started (by kernel_rfl) Try.func3
    (ChangeSpec.witness6 (enc := enc) (C := Try.checked) false ⟨#[], #[.slice none 0 0, .int .i64 0, .int .i64 0, .slice none 0 0], []⟩ 8 (by kernel_rfl) (by kernel_rfl) (by kernel_rfl) (by kernel_rfl)) ?_
  intro W base args ds gs before hval0 hW hcnd hsz0 _
  have hval : ∀ (j : Nat) t v, Try.f3.params[j]? = some t → args[j]? = some v → Value.okWide Try.prog W .any base t v := hval0
  have hW' := hW
  obtain ⟨p, q, hA0, hV, rfl, hfz, hnd⟩ := hW
  have hA : DataW.TrodAll enc Try.prog W 0 (fun _ => true) true Try.f3.params.toList args.toList ds p := hA0
  rw [Try.params3] at hA hval
  obtain ⟨v0, vs0, d0, ds0, p0, q0, hargs, rfl, rfl, h0, r0⟩ := trodAll_cons hA
  obtain ⟨v1, vs1, d1, ds1, p1, q1, rfl, rfl, rfl, h1, r1⟩ := trodAll_cons r0
  obtain ⟨v2, vs2, d2, ds2, p2, q2, rfl, rfl, rfl, h2, r2⟩ := trodAll_cons r1
  obtain ⟨v3, vs3, d3, ds3, p3, q3, rfl, rfl, rfl, h3, r3⟩ := trodAll_cons r2
  obtain ⟨rfl, rfl, rfl⟩ := trodAll_nil r3
  obtain rfl : args = #[v0, v1, v2, v3] := by cases args; simp_all
  obtain ⟨rfl, rfl⟩ := trodVars_none hV
  obtain ⟨a0, len0, cap0, rfl⟩ := okWide_slice Try.underlying22 (hval 0 22 v0 rfl rfl)
  obtain ⟨a1, rfl, rfl, rfl, w1⟩ := open_int Try.underlying3 (hval 1 3 v1 rfl rfl) h1
  obtain ⟨a2, rfl, rfl, rfl, w2⟩ := open_int Try.underlying3 (hval 2 3 v2 rfl rfl) h2
  obtain ⟨a3, len3, cap3, rfl⟩ := okWide_slice Try.underlying23 (hval 3 23 v3 rfl rfl)
  have lt0 : ∀ x ∈ p0, x.block < W.heap.size := by obtain ⟨m, hm⟩ := h0; exact DataW.trod_lt m _ _ _ hm
  have lt3 : ∀ x ∈ p3, x.block < W.heap.size := by obtain ⟨m, hm⟩ := h3; exact DataW.trod_lt m _ _ _ hm
  clear hA0 hval0 hsz0
  refine (Go.Abs.f3_calls h0 h3).mono fun e W' ⟨he, bel⟩ => ?_
  subst he
  exact ⟨_, rfl, _, _, _, [], _, [], hW', trodAll_mk1 (shut_bool Try.underlying4 _), (trodAll_cons_mk (Below.trod laidOut (by kernel_rfl) (of_decide_eq_true (by kernel_rfl)) h0 bel lt0) (trodAll_cons_mk (shut_int Try.underlying3 w1) (trodAll_cons_mk (shut_int Try.underlying3 w2) (trodAll_cons_mk (Below.trod laidOut (by kernel_rfl) (of_decide_eq_true (by kernel_rfl)) h3 bel lt3) trodAll_mk0)))), rfl, bel.frame _, fun h => by cases h⟩
theorem over : Rows.quorumSureRow.holds Try.pinned (OpenSpec.ofChange Rows.quorumSureSpec) :=
  OpenClaim.holds_of_wide 3 Try.f3 rfl rfl rfl rfl rfl rfl rfl ⟨rfl, rfl, rfl, rfl, rfl⟩ rfl rfl rfl rfl rfl (by kernel_rfl) Try.func3 (by kernel_rfl)
    (of_decide_eq_true (by kernel_rfl)) (by unfold Func.isWrapper; first | (rw [if_pos (by decide +kernel)]; kernel_rfl) | (rw [if_neg (by decide +kernel)]; exact ⟨rfl, rfl⟩))
    (fun os started H enc _ => lifted os started H enc)
end Go.Proofs.Ytninaiooagfjfaa.QuorumRow
namespace Go.Proofs.Ytninaiooagfjfaa
/-- The row, under a short name, for the claim. -/
theorem quorumSure_holds : Rows.QuorumSureSaid := QuorumRow.over
end Go.Proofs.Ytninaiooagfjfaa
