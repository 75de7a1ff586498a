/- Ranges over a function: those of a list that are in another one, counted; a map's keys, sorted. Maps from numbers to peers: their keys, their values. Plain laws. No conditions. -/
import Derived.Test.YtninaiooagfjfaaGreatDoorK37
import Derived.RangeFuncBox
import Derived.RangeFuncLeaves
import Derived.RangeFuncWrites
import Derived.Shelf.Abstract
import Derived.WalkKit
import Derived.OwnWalkIn
import Derived.TacticsInMore
import Derived.LoopNIn
import Derived.LoopIn
import Derived.Shelf.SlIterI.Sorted
import Derived.Shelf.SlIterI.Keys
set_option linter.unusedVariables false
set_option linter.unusedSimpArgs false
namespace Go.Abs
open Go Go.RowKit Go.Proofs Go.Shelf

open Go.Shelf in
def Tryz.iter_ren : Go.Shelf.Ren := ⟨fun | 6 => 67 | 7 => 68 | 8 => 87 | 9 => 88 | 10 => 89 | 11 => 105 | n => n, fun | 24 => 25 | 26 => 3 | 27 => 95 | 28 => 95 | 33 => 115 | 23 => 99 | 3 => 70 | n => n, fun | n => n⟩
open Go.Shelf in
theorem Tryz.iter6 : SlLaysZI.n6 Tryz.prog Tryz.iter_ren := {
  mixed := by kernel_rfl
  f6 := ⟨Tryz.f67.name, by decide, Tryz.func67.trans (congrArg some (by kernel_rfl))⟩
  f8 := ⟨Tryz.f87.name, by decide, Tryz.func87.trans (congrArg some (by kernel_rfl))⟩
  f11 := ⟨Tryz.f105.name, by decide, Tryz.func105.trans (congrArg some (by kernel_rfl))⟩
  t0 := Tryz.underlying0
  a0 := Tryz.isAgg0
  z0 := Tryz.sizeOf0
  v0 := Tryz.zeroValue0
  t24 := Tryz.underlying25
  a24 := Tryz.isAgg25
  z24 := Tryz.sizeOf25
  v24 := Tryz.zeroValue25
  t26 := Tryz.underlying3
  a26 := Tryz.isAgg3
  z26 := Tryz.sizeOf3
  v26 := Tryz.zeroValue3
  t28 := Tryz.underlying95
  a28 := Tryz.isAgg95
  z28 := Tryz.sizeOf95
  v28 := Tryz.zeroValue95
  i26 := by kernel_rfl }
open Go.Shelf in
theorem Tryz.iter10 : SlLaysZI.n10 Tryz.prog Tryz.iter_ren := {
  mixed := by kernel_rfl
  f10 := ⟨Tryz.f89.name, by decide, Tryz.func89.trans (congrArg some (by kernel_rfl))⟩
  t0 := Tryz.underlying0
  a0 := Tryz.isAgg0
  z0 := Tryz.sizeOf0
  v0 := Tryz.zeroValue0
  t4 := Tryz.underlying4
  a4 := Tryz.isAgg4
  z4 := Tryz.sizeOf4
  v4 := Tryz.zeroValue4
  t23 := Tryz.underlying99
  a23 := Tryz.isAgg99
  z23 := Tryz.sizeOf99
  v23 := Tryz.zeroValue99
  t26 := Tryz.underlying3
  a26 := Tryz.isAgg3
  z26 := Tryz.sizeOf3
  v26 := Tryz.zeroValue3
  t33 := Tryz.underlying115
  a33 := Tryz.isAgg115
  z33 := Tryz.sizeOf115
  v33 := Tryz.zeroValue115 }
attribute [local go_sem] Oper.semAt_some
theorem nt86 : Tryz.f86.ntmps = 22 := rfl
theorem nt63 : Tryz.f63.ntmps = 9 := rfl
def intOfV : Value → Int
  | .int _ n => n
  | _ => 0
theorem take_snoc (a : List Int) {k : Nat} (h : k < a.length) : a.take (k + 1) = a.take k ++ [iAt a k] := by
  rw [List.take_succ_eq_append_getElem h]; simp [h, iAt]

set_option maxRecDepth 100000 in
set_option maxHeartbeats 2000000 in
/-- Those of a that are in b, for every loop body that keeps what lay below n₀. -/
theorem f86_in (n : Nat) (hn : 1 ≤ n) (l n₀ g off cap : Nat) (pa pb : Addr) (a : List Int) (p : Int → Bool) (sb : Value) (hreach : a.length * 8 ≤ 140737488351232) (hg : g < n₀) (hpb : pb.block < n₀) (J Jx : List Int → World → Prop)
    (W : World) (hC : ∀ (x : Int) (W' : World), Below n₀ W W' → CallsIn Fence.wide (n - 1) Tryz.prog 24 #[sb, .int .i64 x] W' fun e w' => e = .returned (.bool (p x)) ∧ w' = W')
    (hY : ∀ pre x W, J pre W → pre.length < a.length → YieldAt Fence.wide (n - 1) Tryz.prog l #[.int .i64 x] W fun e W' =>
      (e = .returned (.bool true) ∧ J (pre ++ [x]) W' ∧ Below n₀ W W') ∨ (e = .returned (.bool false) ∧ Jx (pre ++ [x]) W'))
    (hcb : ∀ W', Below n₀ W W' → W'.cell? pb = some sb) (hBs : W.cell? pa = some (.slice (some ⟨g, off, none⟩) a.length cap)) (hc : ∀ j, j < a.length → W.cell? ⟨g, off + j, none⟩ = some (.int .i64 (iAt a j))) (h0 : J [] W) :
    CallsIn Fence.wide n Tryz.prog 86 #[.func (.yield l) #[] #[], .pointer (some pa), .pointer (some pb)] W fun e W' => (∃ v, e = .returned v) ∧
      ((∃ ys, ys = a.filter p ∧ J ys W') ∨ (∃ pre, Jx pre W')) := by
  have h24 : Fence.wide.fn 24 := trivial
  refine callsIn_of_wp Tryz.func86 rfl trivial ?_ rfl
  simp only [nt86, List.size_toArray, List.length_cons, List.length_nil, Nat.reduceAdd, Nat.reduceSub, Array.replicate_succ, Array.replicate_zero, List.push_toArray, List.append_toArray, List.nil_append, List.cons_append]
  gi_wp2
  gi_loopw [8] (fun i wr => ∃ k : Nat, k ≤ a.length ∧ i = .int .i64 k ∧ J ((a.take k).filter p) wr ∧ Below n₀ W wr)
    (fun i _ => a.length - (intOfV i).toNat)
  case atStart => exact ⟨0, Nat.zero_le _, rfl, h0, Below.refl _ _⟩
  case round =>
    obtain ⟨k, hk, rfl, hJs, hnx⟩ := hrel
    have hcx : k < a.length → wr.cell? ⟨g, off + k, none⟩ = some (.int .i64 (iAt a k)) := fun h => (hnx.cell (p := ⟨g, off + k, none⟩) hg).trans (hc k h)
    have hbx := hcb wr hnx
    by_cases hlt : k < a.length
    · have hsn := take_snoc a hlt
      have hcx' := hcx hlt
      have hC' := hC (iAt a k) wr hnx
      cases hp : p (iAt a k) with
      | false =>
        rw [hp] at hC'
        gi_wp2_with (gi_at_call 24; refine hC'.mono ?_; rintro e w' ⟨rfl, rfl⟩)
        refine ⟨fun f _ => trivial, ?_⟩
        gi_wp2
        go_roundw
        case rel => exact ⟨k + 1, by omega, by simp, by rw [hsn, List.filter_append]; simpa [hp] using hJs, hnx⟩
        case measure => simp [intOfV]; omega
      | true =>
        obtain ⟨fn, tmps, assign, body, hy, hR⟩ := hY _ (iAt a k) wr hJs (by have := List.length_filter_le p (a.take k); simp at this; omega)
        rw [hp] at hC'
        gi_wp2_with (gi_at_call 24; refine hC'.mono ?_; rintro e w' ⟨rfl, rfl⟩)
        refine hR.mono ?_
        rintro e W3 (⟨rfl, hJ3, hk3⟩ | ⟨rfl, hJx3⟩)
        · gi_wp2
          go_roundw
          case rel => exact ⟨k + 1, by omega, by simp, by rw [hsn, List.filter_append]; simpa [hp] using hJ3, hnx.trans hk3⟩
          case measure => simp [intOfV]; omega
        · gi_wp2
          refine bodyPost_ret (results_none rfl _ _ _) rfl ?_
          exact ⟨⟨_, rfl⟩, .inr ⟨_, hJx3⟩⟩
    · obtain rfl : k = a.length := by omega
      gi_wp2
      go_end0
      exact ⟨⟨_, rfl⟩, .inl ⟨_, rfl, by rw [List.take_length] at hJs; exact hJs⟩⟩

set_option maxRecDepth 100000 in
set_option maxHeartbeats 1000000 in
theorem f86_nil (n : Nat) (l : Nat) (A : Option Addr) (cap : Nat) (pa : Addr) (vb : Value) (J : List Int → World → Prop) (W : World) (hBs : W.cell? pa = some (.slice A 0 cap)) (h0 : J [] W) :
    CallsIn Fence.wide n Tryz.prog 86 #[.func (.yield l) #[] #[], .pointer (some pa), vb] W fun e W' => (∃ v, e = .returned v) ∧ J [] W' := by
  refine callsIn_of_wp Tryz.func86 rfl trivial ?_ rfl
  simp only [nt86, List.size_toArray, List.length_cons, List.length_nil, Nat.reduceAdd, Nat.reduceSub, Array.replicate_succ, Array.replicate_zero, List.push_toArray, List.append_toArray, List.nil_append, List.cons_append]
  gi_wp2
  gi_loopw [8] (fun i wr => i = .int .i64 0 ∧ J [] wr) (fun _ _ => 0)
  case atStart => exact ⟨rfl, h0⟩
  case round =>
    obtain ⟨rfl, hJs⟩ := hrel
    gi_wp2
    go_end0
    exact ⟨⟨_, rfl⟩, hJs⟩

set_option maxRecDepth 100000 in
set_option maxHeartbeats 2000000 in
/-- **'n := 0; for range seq { n++ }; return n'.** -/
theorem f63_in (n : Nat) (hn : 3 ≤ n) (lb : Array Value) (a : List Int) (p : Int → Bool) (hlen : a.length ≤ 1000000000) (w : World)
    (hseq : SeqStopsK Fence.wide (n - 1) Tryz.prog 86 lb (fun x : Int => #[Value.int .i64 x]) (Below w.heap.size) (fun ys => ys = a.filter p) (fun _ => True) a.length w) :
    CallsIn Fence.wide n Tryz.prog 63 #[.func (.func 86) #[] lb] w fun e W' => e = .returned (.int .i64 ((a.filter p).length : Nat)) ∧ Below w.heap.size w W' := by
  have h1 : 1 ≤ n := by omega
  refine callsIn_of_wp_marks Tryz.func63 rfl trivial ?_ rfl
  simp only [nt63, List.size_toArray, List.length_cons, List.length_nil, Nat.reduceAdd, Nat.reduceSub, Array.replicate_succ, Array.replicate_zero, List.push_toArray, List.append_toArray, List.nil_append, List.cons_append]
  gi_wp2
  refine wpIn_rangeFunc_ownG rfl h1 (gf := 86) (lb := lb) rfl trivial (enters_of Tryz.func86 (by kernel_rfl) rfl) hseq belowK_t (belowK_b (by simp)) ((Below.refl _ w).alloc (Nat.le_refl _) _) (fun _ => rfl)
    (fun pre W => Boxed W w.heap.size 3 (.int .i64 (pre.length : Nat)) ∧ Below w.heap.size w W)
    (fun _ _ _ => False)
    (OwnFrom.and (fun s A B row hs hg hr => hs.kept hg (fun e => by obtain ⟨o, ho, hc⟩ := (hr _ e.symm).2; rw [show A.heap[w.heap.size]? = _ from hs] at ho; cases ho; cases hc)) (ownFrom_below (Nat.le_refl _) (by simp)))
    (fun _ _ _ _ _ hs _ _ => hs)
    ⟨Boxed.new w 3 _, (Below.refl _ w).alloc (Nat.le_refl _) _⟩
    (fun x => { tmps := #[.func (.func 86) #[] lb, undef, .int .i64 0, .pointer (some ⟨w.heap.size, 0, none⟩), .func (.func 86) #[] lb, .int .i64 x, undef, undef, undef], defers := [] }) ?assign ?body ?done ?stop
  case assign =>
    intro l x W K hK
    gi_wp2
    have e : (#[5] : Array Tmp).zip #[Value.int .i64 x] = #[(5, .int .i64 x)] := by apply Array.toList_inj.1; simp
    rw [e]
    exact hK
  case body =>
    rintro l pre x W ⟨hc, hB⟩ hlt
    have hcc := hc.cell
    have hcf := hc.frozen
    gi_wp2
    have hl : ((pre ++ [x]).length : Int) = pre.length + 1 := by simp
    refine ⟨(KeepsOthers.setCell _ _ _).from _, (Below.refl _ W).setCell (p := ⟨w.heap.size, 0, none⟩) (Nat.le_refl _) _, ?_, hB.setCell (p := ⟨w.heap.size, 0, none⟩) (Nat.le_refl _) _⟩
    show Boxed _ _ _ _
    rw [hl]
    exact hc.set (.int .i64 (pre.length + 1))
  case done =>
    rintro D ys W hD rfl ⟨hc, hB⟩ hK
    have hcc := hc.cell
    gi_wp2
    refine ⟨by simp, .inl ⟨_, _, rfl, run_takeDeferred hK, ?_⟩⟩
    exact ⟨_, results_tmp rfl _ _ _, rfl, hB.trans (belowK_b (w := w) (Nat.le_refl _) W D _ _ (by simp at hD; omega) hK rfl rfl)⟩
  case stop =>
    rintro D c pre W _ _ h _
    exact h.elim

section
variable {C : Addr → Value → Prop} {m : Nat → Value} {U : Nat → Prop} {u : Value}
theorem RV.fn_inv {f : Nat} {cs : List V} (h : RV C m U (.fn f cs) u) : ∃ vs : Array Value, u = .func (.func f) #[] vs ∧ cs.length = vs.size ∧ ∀ (k : Nat) (x : V) (u : Value), cs[k]? = some x → vs[k]? = some u → RV C m U x u := by
  cases h with
  | fn _ _ vs hl h => exact ⟨vs, rfl, hl, h⟩
theorem RV.ip_inv {x : D} (h : RV C m U (.ip [x]) u) : ∃ ad v, u = .pointer (some ad) ∧ C ad v ∧ RD C x v := by
  cases h with
  | ip _ ad cv h1 _ hR =>
    have h2 := h1 0 x rfl
    have e : ad.add 0 = ad := by simp [Addr.add]
    rw [e] at h2
    exact ⟨ad, cv 0, rfl, h2, hR 0 x rfl⟩
end

theorem f63_walk (a b : List Int) (ha : a.length ≤ 1000000000) (hb : b.length ≤ 1000000000) : CallsA Tryz.prog 63 [.fn 86 [.ip [ints a], .ip [ints b]]] [] (.d (i64 ((a.filter b.contains).length : Nat))) [] := by
  intro w m nt F us hG H hl ha'
  obtain ⟨u, rfl, hu⟩ := args1 hl ha'
  obtain ⟨vs, rfl, hl2, hv⟩ := hu.fn_inv
  obtain ⟨u0, u1, rfl, h0, h1⟩ := args2 hl2 hv
  obtain ⟨pa, va, rfl, ca, ra⟩ := h0.ip_inv
  obtain ⟨pb, vb, rfl, cb, rb⟩ := h1.ip_inv
  obtain ⟨A, capA, rfl, hA⟩ := ints_cells (U := fun _ => True) (.d ra)
  obtain ⟨B, capB, rfl, hB⟩ := ints_cells (U := fun _ => True) (.d rb)
  refine callsIn_wide.1 ((f63_in 5 (by omega) _ a b.contains ha w ?_).mono fun e W he => ?_)
  · intro l J Jx W hW _ _ hY hj0
    have hpa := (hW.cell (p := pa) ca.lt).trans ca.cell
    rcases hA with rfl | ⟨g, off, rfl, hcA⟩
    · exact (f86_nil 4 l A capA pa _ J W hpa hj0).mono fun e W' ⟨he, hj⟩ => ⟨he, .inl ⟨[], rfl, hj⟩⟩
    · by_cases hn : a = []
      · subst hn
        exact (f86_nil 4 l _ capA pa _ J W hpa hj0).mono fun e W' ⟨he, hj⟩ => ⟨he, .inl ⟨[], rfl, hj⟩⟩
      · have hpos : 0 < a.length := List.length_pos_iff.2 hn
        have hg : g < w.heap.size := by
          have h9 := hcA 0 hpos
          obtain ⟨o, ho, _⟩ := not_walk_of_cell h9
          exact (Array.getElem?_eq_some_iff.1 ho).1
        refine (f86_in 4 (by omega) l w.heap.size g off capA pa pb a b.contains (.slice B b.length capB) (by omega) hg cb.lt J Jx W (fun x W' hW' => callsIn_wide.2 ?_) hY (fun W' hW' => ((hW.trans hW').cell (p := pb) cb.lt).trans cb.cell) hpa (fun j hj => ?_) hj0).mono fun e W' he => ?_
        · rcases hB with rfl | ⟨g2, off2, rfl, hcB⟩
          · exact (Tryz.slices_Contains_int_empty B capB x W')
          · have := Tryz.slices_Contains_int g2 off2 b.length capB b x W' (Nat.le_refl _) (by omega) (fun j hj => by
              have h9 := hcB j hj
              obtain ⟨o, ho, _⟩ := not_walk_of_cell h9
              exact ((hW.trans hW').cell (p := ⟨g2, off2 + j, none⟩) (Array.getElem?_eq_some_iff.1 ho).1).trans h9)
            rw [List.take_length] at this
            exact this
        · exact (hW.cell (p := ⟨g, off + j, none⟩) hg).trans (hcA j hj)
        · obtain ⟨h1, h2 | ⟨pre, h3⟩⟩ := he
          · exact ⟨h1, .inl h2⟩
          · exact ⟨h1, .inr ⟨pre, trivial, h3⟩⟩
  · obtain ⟨rfl, hBl⟩ := he
    exact ⟨_, m, _, rfl, H.below hBl, .d (.lit _)⟩

/-- A map's keys, each once, in order. -/
def keysM (M : List (Int × List Int)) : List Int := sorted (intKeys (dM M))
theorem sortsIn : AnyZI.SortsIn Tryz.prog Tryz.iter_ren Fence.wide 5 :=
  ⟨fun blk off cap ss W hH hb hs => callsIn_wide.2 (Tryz.slices_Sort_int blk off cap ss W hH hb hs), fun p cap W => callsIn_wide.2 (Tryz.slices_Sort_int_none p cap W)⟩
theorem f67_walk (M : List (Int × List Int)) (hM : M.length ≤ 1000000) : CallsA Tryz.prog 67 [.fn 89 [.ptr 1 0]] [.inv (MapI Tryz.prog 3 M), .var 99 [.own 0]] (.own 2) [.inv (MapI Tryz.prog 3 M), .var 99 [.own 0], .row 3 1 ((keysM M).map encI)] := by
  intro w m nt F us hG H hl ha
  obtain ⟨u, rfl, hu⟩ := args1 hl ha
  obtain ⟨vs, rfl, hl2, hv⟩ := hu.fn_inv
  obtain ⟨u0, rfl, h0⟩ := args1 hl2 hv
  cases h0 with
  | ptr _ _ g1 ht h2 =>
    obtain ⟨g1', arr, e1, hg1, hsz, hO, hv1⟩ := H.hb 1 (.var 99 [.own 0]) rfl
    rw [h2] at e1
    simp only [Value.pointer.injEq, Option.some.injEq, Addr.mk.injEq, and_true] at e1
    subst e1
    obtain ⟨g, hg, hgl, hI⟩ := H.hb 0 (.inv (MapI Tryz.prog 3 M)) rfl
    obtain ⟨em, hown⟩ := map_owned hg hgl hI
    have hs1 : arr.size = 1 := by simpa using hsz
    have hcell : w.cell? ⟨g1, 0, none⟩ = some (.map (some g)) := by
      have hr := hv1 0 (.own 0) (arr[0]'(by omega)) rfl (by simp [hs1])
      generalize hz : arr[0]'(by omega) = z at hr
      cases hr
      simp [World.cell?, hg1, hs1, hz, em]
    have hlt1 : g1 < w.heap.size := (Array.getElem?_eq_some_iff.1 hg1).1
    have hle := hown.size_le
    refine callsIn_wide.1 ((AnyZI.sorted_in Tryz.iter6 Fence.wide 6 trivial trivial trivial trivial rfl (by omega) sortsIn (enters_of Tryz.func88 (by kernel_rfl) rfl) 89 _ trivial (enters_of Tryz.func89 (by kernel_rfl) rfl) _ (Maps.size (dM M)) (by simp only [maxLen]; omega) (by omega) w (AnyZI.keys_gives Tryz.iter10 Fence.wide 3 trivial rfl (by omega) g1 g M.length (dM M) w hlt1 hcell hown)).mono ?_)
    rintro e w' ⟨v, ss, rfl, hS, hrow, hnil, hB⟩
    have hks : (ss.mergeSort fun x y => decide (x ≤ y)) = keysM M := mergeSort_of_perm_i hS
    rw [hks] at hrow
    have hlen : ss.length = (keysM M).length := by rw [← hks, List.length_mergeSort]
    rw [hlen] at hrow
    have hone : v.oneCell' = true := by rcases hrow.2 with ⟨rfl, _⟩ | ⟨_, _, _, rfl, _⟩ <;> rfl
    have htk : ¬ (fun t => t < ([.inv (MapI Tryz.prog 3 M), .var 99 [.own 0]] : List Blk).length) 2 := by simp
    have hrow3 : w'.ownsRow w.heap.size 3 1 v ((keysM M).map encI).length ((keysM M).map encZ) := by rw [List.length_map]; exact hrow
    have hrow2 := own_row hrow3
    have HM := H.more (tk := 2) (v := v) (b := .row 3 1 ((keysM M).map encI)) htk (own_blk hrow) (fun g hg => hB.block g hg) hB.size hB.os hB.tape hB.output ?_
    refine ⟨v, upm m 2 v, _, rfl, HM.less (fun t b h => ?_), ?_⟩
    · match t with
      | 0 => exact h
      | 1 => exact h
      | 2 => exact h
        | t + 3 => exact absurd (show none = some b from h) (by simp)
    · have := RV.own (C := Cw F (enum [.inv (MapI Tryz.prog 3 M), .var 99 [.own 0], .row 3 1 ((keysM M).map encI)] 0) (upm m 2 v) w') (m := upm m 2 v) (U := also (fun t => t < ([.inv (MapI Tryz.prog 3 M), .var 99 [.own 0]] : List Blk).length) 2) 2 (.inr rfl) (by rw [upm_self]; exact hone)
      rwa [upm_self] at this
    · refine ⟨(keysM M).map encZ, by rw [upm_self]; exact hrow2, ints_len _, ?_, fun j row hj k x hk => ?_⟩
      · intro u hu
        obtain ⟨z, _, rfl⟩ := List.mem_map.1 hu
        rfl
      · obtain ⟨rfl, z, hz, rfl⟩ := encI_get _ j row hj k x hk
        exact ⟨.int .i64 z, by simp [hz], .lit _⟩
end Go.Abs

set_option linter.unusedVariables false
set_option linter.unusedSimpArgs false
namespace Go.Abs
open Go Go.RowKit Go.Proofs

def encQ (M : List (Int × Peer)) : List (Int × List Int) := M.map fun p => (p.1, [p.2.id, p.2.next, p.2.mtch])
def getP : List (Int × Peer) → Int → Option Peer
  | [], _ => none
  | (k, p) :: M, x => if x = k then some p else getP M x
theorem getM_encQ : ∀ (M : List (Int × Peer)) (x : Int), getM (encQ M) x = (getP M x).map fun p => [p.id, p.next, p.mtch]
  | [], x => rfl
  | (k, p) :: M, x => by
    show getM ((k, [p.id, p.next, p.mtch]) :: encQ M) x = _
    rw [getM, getP]
    by_cases h : x = k
    · rw [if_pos h, if_pos h]; rfl
    · rw [if_neg h, if_neg h, getM_encQ M x]
def pG (M : List (Int × Peer)) (x : Int) : Peer := (getP M x).getD ⟨0, 0, 0⟩
theorem getM_D (M : List (Int × Peer)) (x : Int) : (getM (encQ M) x).getD [0, 0, 0] = [(pG M x).id, (pG M x).next, (pG M x).mtch] := by
  rw [getM_encQ, pG]; cases getP M x <;> rfl
theorem getM_S (M : List (Int × Peer)) (x : Int) : (getM (encQ M) x).isSome = (getP M x).isSome := by
  rw [getM_encQ]; cases getP M x <;> rfl
theorem encQ_len (M : List (Int × Peer)) : (encQ M).length = M.length := by simp [encQ]

/-- A map's keys, each once. -/
def kM : List (Int × Peer) → List Int
  | [] => []
  | (k, _) :: M => k :: (kM M).filter (fun x => !decide (x = k))
theorem insert_perm {H : Type} (x : Lit × DataW H) : ∀ l : List (Lit × DataW H), (DataW.insert x l).Perm (x :: l)
  | [] => .refl _
  | y :: r => by
    rw [DataW.insert]
    split
    · exact .refl _
    · exact ((insert_perm x r).cons y).trans (.swap x y r)
def intK {H : Type} (es : List (Lit × DataW H)) : Prop := ∀ p ∈ es, ∃ x, p.1 = .int .i64 x
theorem filter_keys {H : Type} (k : Int) : ∀ {es : List (Lit × DataW H)}, intK es → (es.filter fun p => !p.1.sameKey (.int .i64 k)).map (fun p => intOf p.1) = (es.map fun p => intOf p.1).filter (fun x => !decide (x = k))
  | [], _ => rfl
  | p :: r, h => by
    obtain ⟨x, hx⟩ := h p List.mem_cons_self
    have ih := filter_keys k (es := r) fun q hq => h q (List.mem_cons_of_mem _ hq)
    have e : p.1.sameKey (.int .i64 k) = decide (x = k) := by rw [hx]; simp [Lit.sameKey]
    have e2 : intOf p.1 = x := by rw [hx]; rfl
    rw [List.filter_cons, List.map_cons, List.filter_cons, e, e2]
    by_cases hk : x = k
    · simp [hk]; simpa using ih
    · simp [hk, e2]; simpa using ih
theorem dM_keys : ∀ M : List (Int × Peer), ∃ es, dM (encQ M) = .map es ∧ intK es ∧ (es.map fun p => intOf p.1).Perm (kM M)
  | [] => ⟨[], rfl, (fun p h => absurd h (by simp) : intK []), List.Perm.refl _⟩
  | (k, p) :: M => by
    obtain ⟨es, h1, h2, h3⟩ := dM_keys M
    refine ⟨DataW.insert (.int .i64 k, .agg ([p.id, p.next, p.mtch].map fun a => .lit (.int .i64 a))) (es.filter fun q => !q.1.sameKey (.int .i64 k)), ?_, fun q hq => ?_, ?_⟩
    · show dM ((k, [p.id, p.next, p.mtch]) :: encQ M) = _
      rw [dM, h1]; rfl
    · rcases List.mem_cons.1 ((insert_perm _ _).mem_iff.1 hq) with rfl | hq
      · exact ⟨k, rfl⟩
      · exact h2 q (List.mem_filter.1 hq).1
    · refine ((insert_perm _ _).map _).trans ?_
      rw [List.map_cons, filter_keys k h2, kM]
      exact .cons _ (h3.filter _)
theorem keysM_eq (M : List (Int × Peer)) : keysM (encQ M) = sorted (kM M) := by
  obtain ⟨es, h1, _, h3⟩ := dM_keys M
  unfold keysM
  rw [h1]
  exact mergeSort_of_perm_i h3
theorem mem_kM : ∀ (M : List (Int × Peer)) (x : Int), x ∈ kM M ↔ (getP M x).isSome = true
  | [], x => by simp [kM, getP]
  | (k, p) :: M, x => by
    rw [kM, getP]
    by_cases h : x = k
    · simp [h]
    · simp [h, mem_kM M x]
theorem nodup_kM : ∀ M : List (Int × Peer), (kM M).Nodup
  | [] => .nil
  | (k, p) :: M => by
    rw [kM, List.nodup_cons]
    exact ⟨by simp, (nodup_kM M).filter _⟩
theorem mem_keysM (M : List (Int × Peer)) (x : Int) : x ∈ keysM (encQ M) ↔ (getP M x).isSome = true := by
  rw [keysM_eq, (sorted_perm _).mem_iff, mem_kM]

/-- The voters but one, as new peers. -/
def mA (l : List Int) (self next : Int) : Nat → List (Int × Peer)
  | 0 => []
  | j + 1 => if iAt l j = self then mA l self next j else (iAt l j, ⟨iAt l j, next, 0⟩) :: mA l self next j
theorem mA_zero (l : List Int) (self next : Int) : mA l self next 0 = [] := rfl
theorem mA_yes {l : List Int} {self next : Int} {j : Nat} (h : decide (iAt l j ≠ self) = true) : encQ (mA l self next (j + 1)) = (iAt l j, [iAt l j, next, 0]) :: encQ (mA l self next j) := by
  rw [mA, if_neg (of_decide_eq_true h)]; rfl
theorem mA_no {l : List Int} {self next : Int} {j : Nat} (h : decide (iAt l j ≠ self) = false) : mA l self next (j + 1) = mA l self next j := by
  rw [mA, if_pos (by simpa using h)]
theorem mA_len (l : List Int) (self next : Int) : ∀ j, (mA l self next j).length ≤ j
  | 0 => Nat.le_refl _
  | j + 1 => by
    rw [mA]
    have := mA_len l self next j
    split
    · omega
    · simp; omega
/-- Elder peers that are still ones. -/
def mB (M : List (Int × Peer)) (old : List Peer) : Nat → List (Int × Peer)
  | 0 => M
  | j + 1 => if (getP (mB M old j) (pAt old j).id).isSome = true then ((pAt old j).id, pAt old j) :: mB M old j else mB M old j
theorem mB_zero (M : List (Int × Peer)) (old : List Peer) : mB M old 0 = M := rfl
theorem mB_yes {M : List (Int × Peer)} {old : List Peer} {j : Nat} (h : (getP (mB M old j) (pAt old j).id).isSome = true) : encQ (mB M old (j + 1)) = ((pAt old j).id, [(pAt old j).id, (pAt old j).next, (pAt old j).mtch]) :: encQ (mB M old j) := by
  rw [mB, if_pos h]; rfl
theorem mB_no {M : List (Int × Peer)} {old : List Peer} {j : Nat} (h : (getP (mB M old j) (pAt old j).id).isSome = false) : mB M old (j + 1) = mB M old j := by
  rw [mB, if_neg (by rw [h]; simp)]
theorem mB_len (M : List (Int × Peer)) (old : List Peer) : ∀ j, (mB M old j).length ≤ M.length + j
  | 0 => Nat.le_refl _
  | j + 1 => by
    rw [mB]
    have := mB_len M old j
    split
    · simp; omega
    · omega
/-- What the peers of voters are, elder ones staying. -/
def mF (l : List Int) (self next : Int) (old : List Peer) : List (Int × Peer) := mB (mA l self next l.length) old old.length
def peersF (l : List Int) (self next : Int) (old : List Peer) : List Peer := (keysM (encQ (mF l self next old))).map (pG (mF l self next old))
theorem getP_mB (M : List (Int × Peer)) (old : List Peer) (x : Int) : ∀ j, (getP (mB M old j) x).isSome = (getP M x).isSome
  | 0 => rfl
  | j + 1 => by
    rw [mB]
    split
    · rename_i h
      rw [getP]
      by_cases hx : x = (pAt old j).id
      · rw [if_pos hx, hx, ← getP_mB M old _ j, h]; rfl
      · rw [if_neg hx]; exact getP_mB M old x j
    · exact getP_mB M old x j
theorem getP_mA (l : List Int) (self next : Int) (x : Int) : ∀ j, j ≤ l.length → getP (mA l self next j) x = if x ∈ l.take j ∧ x ≠ self then some ⟨x, next, 0⟩ else none
  | 0, _ => by simp [mA, getP]
  | j + 1, h => by
    have ih := getP_mA l self next x j (by omega)
    have ht : l.take (j + 1) = l.take j ++ [iAt l j] := by rw [List.take_succ_eq_append_getElem (by omega), iAt_get (by omega)]
    rw [mA, ht]
    by_cases hs : iAt l j = self
    · rw [if_pos hs, ih]
      by_cases hx : x = iAt l j
      · have : x = self := hx.trans hs
        simp [this]
      · simp [hx]
    · rw [if_neg hs, getP, ih]
      by_cases hx : x = iAt l j
      · rw [if_pos hx]
        have : x ≠ self := fun e => hs (hx ▸ e)
        simp [hx, hs]
      · simp [hx]
theorem keys_mem {l : List Int} {self next : Int} {old : List Peer} {x : Int} (h : x ∈ keysM (encQ (mF l self next old))) : x ∈ l ∧ x ≠ self := by
  rw [mem_keysM, mF, getP_mB, getP_mA _ _ _ _ _ (Nat.le_refl _), List.take_length] at h
  by_cases hc : x ∈ l ∧ x ≠ self
  · exact hc
  · rw [if_neg hc] at h; cases h
theorem peers_nextQ (M : List (Int × Peer)) {ks : List Int} {j : Nat} (h : j < ks.length) : ((ks.take (j + 1)).map (pG M)).map encPeer = ((ks.take j).map (pG M)).map encPeer ++ [[.lit (.int .i64 (pG M (iAt ks j)).id), .lit (.int .i64 (pG M (iAt ks j)).next), .lit (.int .i64 (pG M (iAt ks j)).mtch)]] := by
  rw [List.take_succ_eq_append_getElem h, List.map_append, List.map_append, iAt_get h]; rfl
end Go.Abs
