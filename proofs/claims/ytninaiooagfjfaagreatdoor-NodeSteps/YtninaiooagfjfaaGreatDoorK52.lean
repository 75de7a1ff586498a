/- What the rows of this seat share: an argument's reading as a node; the tables; a world in which they are laid. No conditions. -/
import Derived.Test.YtninaiooagfjfaaGreatDoorTie
import Derived.Test.YtninaiooagfjfaaGreatDoorCards
import Derived.Test.YtninaiooagfjfaaGreatDoorK51
import Derived.Test.YtninaiooagfjfaaGreatDoorK08
import Derived.ProofKit
import Derived.OpenShut
import Derived.ChangeOld
import Derived.SizedLaws
import Derived.Carry
import Derived.MakeChecks
import Derived.LaidMore
import Derived.Deep.DeepHandedRow
import Derived.Lib.LaidTab
set_option linter.unusedVariables false
set_option linter.unusedSimpArgs false
namespace Go.Abs
open Go Go.RowKit Go.Proofs Go.Proofs.YtninaiooagfjfaaGreatDoor

theorem sh_int {ds : List D} (h : Sh Tryz.prog 3 ds) : ∃ n, ds = [i64 n] := by
  obtain ⟨n, rfl, -⟩ := h.int_inv Tryz.underlying3
  exact ⟨n, rfl⟩
theorem sh_str {ds : List D} (h : Sh Tryz.prog 9 ds) : ∃ s, ds = [str s] ∧ s.size ≤ 9223372036854775807 := by
  obtain ⟨s, rfl, hs⟩ := h.str_inv Tryz.underlying9
  exact ⟨s, rfl, hs⟩
theorem sh_ints {ds : List D} (h : Sh Tryz.prog 25 ds) : ∃ l : List Int, ds = [ints l] := by
  obtain ⟨l, rfl, -, hr⟩ := h.slice_inv Tryz.underlying25
  obtain ⟨zs, rfl, -⟩ := rows_map (q := fun _ => True) (enc' := encI) (l := l) fun row hrow => by
    obtain ⟨n, rfl⟩ := sh_int (hr row hrow)
    exact ⟨n, rfl, trivial⟩
  exact ⟨zs, rfl⟩
theorem sh_peers {ds : List D} (h : Sh Tryz.prog 28 ds) : ∃ l : List Peer, ds = [peers l] := by
  obtain ⟨l, rfl, -, hr⟩ := h.slice_inv Tryz.underlying28
  obtain ⟨ps, rfl, -⟩ := rows_map (q := fun _ => True) (enc' := encPeer) (l := l) fun row hrow => by
    obtain ⟨b1, r1, rfl, h1, k1⟩ := ((hr row hrow).struct_inv Tryz.underlying70).cons_inv
    obtain ⟨a1, rfl⟩ := sh_int h1
    obtain ⟨b2, r2, rfl, h2, k2⟩ := k1.cons_inv
    obtain ⟨a2, rfl⟩ := sh_int h2
    obtain ⟨b3, r3, rfl, h3, k3⟩ := k2.cons_inv
    obtain ⟨a3, rfl⟩ := sh_int h3
    obtain rfl := k3.nil_inv
    exact ⟨⟨a1, a2, a3⟩, rfl, trivial⟩
  exact ⟨ps, rfl⟩
theorem sh_recs {ds : List D} (h : Sh Tryz.prog 22 ds) : ∃ l : List Rec, ds = [recs l] := by
  obtain ⟨l, rfl, -, hr⟩ := h.slice_inv Tryz.underlying22
  obtain ⟨ps, rfl, -⟩ := rows_map (q := fun _ => True) (enc' := encRec) (l := l) fun row hrow => by
    obtain ⟨b1, r1, rfl, h1, k1⟩ := ((hr row hrow).struct_inv Tryz.underlying49).cons_inv
    obtain ⟨a1, rfl⟩ := sh_int h1
    obtain ⟨b2, r2, rfl, h2, k2⟩ := k1.cons_inv
    obtain ⟨a2, rfl⟩ := sh_int h2
    obtain ⟨b3, r3, rfl, h3, k3⟩ := k2.cons_inv
    obtain ⟨a3, rfl, -⟩ := sh_str h3
    obtain rfl := k3.nil_inv
    exact ⟨⟨a1, a2, a3⟩, rfl, trivial⟩
  exact ⟨ps, rfl⟩
theorem sh_log {ds : List D} (h : Sh Tryz.prog 24 ds) : ∃ l : Lg, ds = [i64 l.base, i64 l.bterm, recs l.recs] := by
  obtain ⟨b1, r1, rfl, h1, k1⟩ := (h.struct_inv Tryz.underlying24).cons_inv
  obtain ⟨a1, rfl⟩ := sh_int h1
  obtain ⟨b2, r2, rfl, h2, k2⟩ := k1.cons_inv
  obtain ⟨a2, rfl⟩ := sh_int h2
  obtain ⟨b3, r3, rfl, h3, k3⟩ := k2.cons_inv
  obtain ⟨a3, rfl⟩ := sh_recs h3
  obtain rfl := k3.nil_inv
  exact ⟨⟨a1, a2, a3⟩, rfl⟩
theorem sh_hard {ds : List D} (h : Sh Tryz.prog 27 ds) : ∃ h : Hard, ds = [i64 h.term, i64 h.vote, i64 h.log.base, i64 h.log.bterm, recs h.log.recs, str h.snap, ints h.voters] ∧ h.snap.size ≤ 9223372036854775807 := by
  obtain ⟨b1, r1, rfl, h1, k1⟩ := (h.struct_inv Tryz.underlying27).cons_inv
  obtain ⟨a1, rfl⟩ := sh_int h1
  obtain ⟨b2, r2, rfl, h2, k2⟩ := k1.cons_inv
  obtain ⟨a2, rfl⟩ := sh_int h2
  obtain ⟨b3, r3, rfl, h3, k3⟩ := k2.cons_inv
  obtain ⟨l, rfl⟩ := sh_log h3
  obtain ⟨b4, r4, rfl, h4, k4⟩ := k3.cons_inv
  obtain ⟨a4, rfl, ha4⟩ := sh_str h4
  obtain ⟨b5, r5, rfl, h5, k5⟩ := k4.cons_inv
  obtain ⟨a5, rfl⟩ := sh_ints h5
  obtain rfl := k5.nil_inv
  exact ⟨⟨a1, a2, l, a4, a5⟩, rfl, ha4⟩
theorem sh_node {ds : List D} (h : Sh Tryz.prog 30 ds) : ∃ n : Node, ds.map V.d = nodeV n ∧ n.hard.snap.size ≤ 9223372036854775807 := by
  obtain ⟨b1, r1, rfl, h1, k1⟩ := (h.struct_inv Tryz.underlying30).cons_inv
  obtain ⟨a1, rfl⟩ := sh_int h1
  obtain ⟨b2, r2, rfl, h2, k2⟩ := k1.cons_inv
  obtain ⟨hd, rfl, hS0⟩ := sh_hard h2
  obtain ⟨b3, r3, rfl, h3, k3⟩ := k2.cons_inv
  obtain ⟨a3, rfl⟩ := sh_int h3
  obtain ⟨b4, r4, rfl, h4, k4⟩ := k3.cons_inv
  obtain ⟨a4, rfl⟩ := sh_int h4
  obtain ⟨b5, r5, rfl, h5, k5⟩ := k4.cons_inv
  obtain ⟨a5, rfl⟩ := sh_int h5
  obtain ⟨b6, r6, rfl, h6, k6⟩ := k5.cons_inv
  obtain ⟨a6, rfl⟩ := sh_int h6
  obtain ⟨b7, r7, rfl, h7, k7⟩ := k6.cons_inv
  obtain ⟨a7, rfl⟩ := sh_ints h7
  obtain ⟨b8, r8, rfl, h8, k8⟩ := k7.cons_inv
  obtain ⟨a8, rfl⟩ := sh_peers h8
  obtain rfl := k8.nil_inv
  exact ⟨⟨a1, hd, a3, a4, a5, a6, a7, a8⟩, rfl, hS0⟩
theorem ok30 : okT Tryz.prog 8 30 = true := by kernel_rfl

/-- A node that came in, as the calculus sees it. -/
theorem node_reads {H : Type} {enc : TypeId × Value → H} {W : World} {base : Nat} {spare : Nat → Bool} {held : Bool} {C : Addr → Value → Prop} (hC : ∀ a v, W.cell? a = some v → C a v) {cs : Array Value} {d : DataW H} {p : List MemPlace}
    (h : DataW.Trod enc Tryz.prog W base spare held 30 (.agg cs) d p) : ∃ n : Node, n.hard.snap.size ≤ 9223372036854775807 ∧ ∀ (m : Nat → Value) (U : Nat → Prop), RV C m U (.agg (nodeV n)) (.agg cs) := by
  obtain ⟨ds, s, r⟩ := read_data hC 8 30 cs.toList (d, p) ok30 h
  obtain ⟨n, hn, hS0⟩ := sh_node s
  refine ⟨n, hS0, fun m U => ?_⟩
  rw [← hn]
  refine .agg _ _ (by simpa using r.1) (fun k u hu => r.2.1 u (by rw [← Array.getElem?_toList] at hu; exact List.mem_of_getElem? hu)) fun k x u hx hu => ?_
  rw [List.getElem?_map] at hx
  cases hd : ds[k]? with
  | none => rw [hd] at hx; cases hx
  | some y =>
    rw [hd] at hx
    obtain rfl := Option.some.inj hx
    exact .d (r.2.2 k y u hd (by rw [← Array.getElem?_toList] at hu; exact hu))

/-! ### the tables -/
theorem gPow : Tryz.prog.globalNamed "internal/strconv.uint64pow10" = some 3 := by kernel_rfl
theorem tPow : (Tryz.prog.globals[3]?).map (·.type) = some 189 := by kernel_rfl
theorem size0 : Tryz.prog.globals.size = 6 := by kernel_rfl
theorem table {W : World} (h : laidMetH Tryz.prog Rows.nodeStepsRow.laid W) : Lib.TabIs Tryz.prog W "internal/strconv.uint64pow10" .u64 Lib.pow10Tab := by
  rw [MakeChecks.laidMetH_plain _ _ _ (by kernel_rfl)] at h
  obtain ⟨ps, ⟨g0, t0, cs0, f0, p0, q0, hg0, ht0, hv0, hd0, ⟨g1, t1, cs1, f1, p1, q1, hg1, ht1, hv1, hd1, ⟨g2, t2, cs2, f2, p2, q2, hg2, ht2, hv2, hd2, _⟩, _⟩, _⟩, _⟩ := h
  obtain rfl := Option.some.inj (gPow.symm.trans hg2)
  obtain rfl := Option.some.inj (tPow.symm.trans ht2)
  unfold Lib.TabIs
  rw [hv2, ← Lib.cells_of_tab (zs := Lib.pow10Tab) Tryz.underlying189 Tryz.underlying163 (by kernel_rfl) (by kernel_rfl) hd2]
set_option maxRecDepth 100000 in
theorem maxLen_cell {W : World} (h : W.ShapedOpen Tryz.prog) : ∃ m, W.cell? ⟨0, 0, none⟩ = some (.int .i64 m) := by
  have h0 : ((begin Tryz.prog (fun _ _ => 0) default).world.heap[0]?).bind Obj.row? = some (#[.int .i64 0], 3) := by kernel_rfl
  obtain ⟨cs, hh, hs, hr⟩ := h.1 0 _ _ (by rw [size0]; decide) h0
  obtain ⟨ts, hts, _, hall⟩ := hr (by kernel_rfl)
  have hts' : Tryz.prog.cellTypes Tryz.prog.depth 3 = some [3] := by kernel_rfl
  rw [hts'] at hts
  obtain rfl := Option.some.inj hts
  have h1 : 0 < cs.size := by rw [hs]; decide
  obtain ⟨u, hu', hok⟩ := hall 0 cs[0] (by simp [h1])
  have : u = 3 := by simpa using hu'.symm
  subst this
  have hcell : W.cell? ⟨0, 0, none⟩ = some cs[0] := by simp [World.cell?, hh, h1]
  rw [hcell]
  unfold Cell.ok at hok
  rw [Tryz.underlying3] at hok
  cases hv : cs[0] with
  | int k n =>
    rw [hv] at hok
    simp only at hok
    exact ⟨n, by rw [hok.1]⟩
  | _ => rw [hv] at hok; simp at hok
/-- What a world that meets the row's list is to the calculus. -/
theorem good_of {W : World} (h : laidMetH Tryz.prog Rows.nodeStepsRow.laid W) (hs : W.ShapedOpen Tryz.prog) : Good Tryz.prog (fun g => g < 6) W :=
  ⟨⟨fun g hg => by rw [size0] at hg; exact hg, by rw [size0]; decide⟩, by rw [size0]; decide, table h, maxLen_cell hs⟩
set_option maxRecDepth 100000 in
theorem far_of {W : World} (hs : W.ShapedOpen Tryz.prog) : 6 ≤ W.heap.size := by
  have h0 : ((begin Tryz.prog (fun _ _ => 0) default).world.heap[5]?).bind Obj.row? ≠ Option.none := by
    have : (((begin Tryz.prog (fun _ _ => 0) default).world.heap[5]?).bind Obj.row?).isSome = true := by kernel_rfl
    intro e; rw [e] at this; cases this
  cases hx : ((begin Tryz.prog (fun _ _ => 0) default).world.heap[5]?).bind Obj.row? with
  | none => exact absurd hx h0
  | some zt =>
    obtain ⟨z, t⟩ := zt
    obtain ⟨cs, hh, _⟩ := hs.1 5 z t (by rw [size0]; decide) hx
    have := (Array.getElem?_eq_some_iff.1 hh).1
    omega
/-- The calculus's own beginning: nothing is handed over. -/
theorem rel_begin {W : World} (h6 : 6 ≤ W.heap.size) (m : Nat → Value) (nt : Nat) : RelH ⟨W, ([] : List Blk).length, m, nt, fun g => g < 6⟩ (enum [] 0) (fun t => t < ([] : List Blk).length) W m :=
  ⟨fun t b ht => by simp [enum, lk] at ht, fun t t' b b' g ht => by simp [enum, lk] at ht, fun t b ht => by simp [enum, lk] at ht, fun t b g ht => by simp [enum, lk] at ht, fun t ht => rfl, fun t ht => ht, fun t b g ht => by simp [enum, lk] at ht,
    fun g hg => ⟨Nat.lt_of_lt_of_le hg h6, fun t ht => absurd ht (Nat.not_lt_zero _)⟩, ⟨rfl, rfl, rfl, Nat.le_refl _, fun _ _ _ => rfl⟩⟩

/-! ### a world for the witness -/
mutual
def valsOf : DataW Unit → List Value
  | .lit (.int k n) => [.int k n]
  | .agg l => valsOfL l
  | _ => []
def valsOfL : List (DataW Unit) → List Value
  | [] => []
  | d :: r => valsOf d ++ valsOfL r
end
def fill (d : DataW Unit) : Obj → Obj
  | .cells _ t frozen => .cells (valsOf d).toArray t frozen
  | o => o
noncomputable def laidWorld (os : Os) : World :=
  { World.holding Tryz.prog os ⟨#[], #[], []⟩ with heap := (((((World.holding Tryz.prog os ⟨#[], #[], []⟩).heap.modify 1 (fill Rows.laid_unicode_utf8_first)).modify 2 (fill Rows.laid_unicode_utf8_acceptRanges)).modify 3 (fill Rows.laid_internal_strconv_uint64pow10)).modify 4 (fill Rows.laid_math_bits_deBruijn32tab)).modify 5 (fill Rows.laid_math_bits_deBruijn64tab) }
set_option maxRecDepth 100000 in
theorem laid_met (os : Os) (args : Array Value) : laidMet Tryz.prog Rows.nodeStepsRow.laid ((laidWorld os).forCall (fun _ _ => 0) ⟨#[], args, []⟩).memory :=
  laidMet_of_run' 8 (by kernel_rfl) (by kernel_rfl)
theorem laid_metH (os : Os) (args : Array Value) : laidMetH Tryz.prog Rows.nodeStepsRow.laid ((laidWorld os).forCall (fun _ _ => 0) ⟨#[], args, []⟩).memory := by
  rw [MakeChecks.laidMetH_plain _ _ _ (by kernel_rfl)]
  exact laid_met os args
end Go.Abs
