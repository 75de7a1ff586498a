/- Rows of bytes that are written on: append of a string's bytes or of a row's, conversions. Rows of bytes in a state: what append and conversions do. Maps from numbers to structs of numbers that the run has made. No conditions. -/
import Derived.Test.YtninaiooagfjfaaGreatDoorK04
import Derived.Lib.AppendStr
import Derived.Laws.BytesString
import Derived.Maps.OwnSet
set_option linter.unusedVariables false
set_option linter.unusedSimpArgs false
namespace Go.Abs
open Go Go.RowKit

theorem strCells_inj {s s' : ByteArray} (h : Lib.strCells s = Lib.strCells s') : s = s' := by
  have h1 : s.data.toList = s'.data.toList := by
    have h2 : ∀ (a b : List UInt8), a.map (fun b => Value.int .u8 b.toNat) = b.map (fun b => Value.int .u8 b.toNat) → a = b := by
      intro a
      induction a with
      | nil => intro b h; cases b with
        | nil => rfl
        | cons => simp at h
      | cons x r ih => intro b h; cases b with
        | nil => simp at h
        | cons y q =>
          simp only [List.map_cons, List.cons.injEq, Value.int.injEq, true_and] at h
          have : x = y := UInt8.toNat_inj.1 (by omega)
          rw [this, ih q h.2]
    exact h2 _ _ h
  cases s; cases s'; simp only [ByteArray.mk.injEq]; exact Array.toList_inj.1 h1

theorem ByI_inj {e : TypeId} {s s' : ByteArray} (h : ByI e s = ByI e s') : s = s' := by
  have h1 : ByI e s (.slice (some ⟨0, 0, none⟩) s.size s.size) (some (.cells (Lib.strCells s).toArray e (0, 0))) :=
    ⟨0, s.size, _, (0, 0), rfl, rfl, Nat.le_refl _, by simp [Lib.strCells_length], by rw [← Lib.strCells_length]; simp, fun _ _ h => by simp only at h; omega⟩
  rw [h] at h1
  obtain ⟨g, c, cur, fz, e1, e2, _, _, e5, _⟩ := h1
  simp only [Value.slice.injEq] at e1
  simp only [Option.some.injEq, Obj.cells.injEq] at e2
  rw [← e2.1, ← e1.2.1, ← Lib.strCells_length] at e5
  simp at e5
  exact strCells_inj e5
theorem txtI_ByI (e : TypeId) (s : ByteArray) : txtI e (ByI e s) = s := by
  unfold txtI
  rw [dif_pos ⟨s, rfl⟩]
  exact (ByI_inj (Exists.choose_spec (⟨s, rfl⟩ : ∃ s', ByI e s = ByI e s'))).symm
theorem ByP_ByI (e : TypeId) (s : ByteArray) : ByP e (ByI e s) = True := eq_true ⟨s, rfl⟩

theorem byteT_eq {P : Program} {e : TypeId} (h : byteT P e = true) : ∃ i, P.info? e = some i ∧ i.size = 1 ∧ i.bytes = 1 ∧ i.zero = some (.int .u8 0) ∧ P.underlying e = some (.int .u8) := by
  unfold byteT at h
  split at h
  · rename_i i hi
    simp only [Bool.and_eq_true, beq_iff_eq] at h
    obtain ⟨⟨⟨h1, h2⟩, h3⟩, h4⟩ := h
    refine ⟨i, hi, h1, h2, ?_, ?_⟩
    · split at h3
      · assumption
      · cases h3
    · split at h4
      · assumption
      · cases h4
  · cases h

theorem strCells_append (s s' : ByteArray) : Lib.strCells (s ++ s') = Lib.strCells s ++ Lib.strCells s' := by
  simp [Lib.strCells]
theorem size_append (s s' : ByteArray) : (s ++ s').size = s.size + s'.size := ByteArray.size_append

theorem run_storeCells_ok (P : Program) (g o : Nat) (t : TypeId) (fz : Nat × Nat) : ∀ (vs : List Value) (i : Nat) (cur : Array Value) (w : World), w.heap[g]? = some (.cells cur t fz) → (∀ k, k < cur.size → ¬ (fz.1 ≤ k ∧ k < fz.2)) → o + i + vs.length ≤ cur.size → (∀ v ∈ vs, v.oneCell' = true) →
    (storeCells ⟨g, o, none⟩ vs i).run P w = .ok () (w.setRow g (cur.toList.take (o + i) ++ vs ++ cur.toList.drop (o + i + vs.length)).toArray)
  | [], i, cur, w, hg, _, _, _ => by
    simp only [storeCells, List.append_nil, List.length_nil, Nat.add_zero, List.take_append_drop, Array.toArray_toList]
    rw [setRow_self w g cur t fz hg]
    rfl
  | v :: rest, i, cur, w, hg, hfz, hl, h1 => by
    have hi : o + i < cur.size := by simp at hl; omega
    have hadd : (⟨g, o, none⟩ : Addr).add i = ⟨g, o + i, none⟩ := by unfold Addr.add; split <;> simp_all
    have hcell : w.cell? ⟨g, o + i, none⟩ = some cur[o + i] := by simp [World.cell?, hg, hi]
    have hfro : w.frozen? ⟨g, o + i, none⟩ = false := by
      have := hfz _ hi
      obtain ⟨lo, hi'⟩ := fz
      simp only [World.frozen?, hg, Bool.and_eq_false_iff, decide_eq_false_iff_not]
      simp only at this
      omega
    have hst : (store ((⟨g, o, none⟩ : Addr).add i) v).run P w = .ok () (w.setRow g (cur.setIfInBounds (o + i) v)) := by
      rw [hadd, run_store P w _ v _ (h1 v (by simp)), hcell]
      simp [hfro, setCell_eq_setRow w g (o + i) cur t fz v hg]
    have ih := run_storeCells_ok P g o t fz rest (i + 1) (cur.setIfInBounds (o + i) v) (w.setRow g (cur.setIfInBounds (o + i) v)) (setRow_heap w g cur _ t _ hg) (by simpa using hfz) (by simp at hl ⊢; omega) (fun x hx => h1 x (by simp [hx]))
    simp only [storeCells, Sem.run_bind, hst, Result.andThen_ok, ih, setRow_setRow]
    congr 3
    have e := list_seg_step cur.toList (o + i) v rest (by simp at hl ⊢; omega)
    simpa [Array.toList_setIfInBounds, Nat.add_assoc] using e

section
variable {P : Program} (w : World)

/-- What is appended: a value that yields a string's bytes. -/
structure Yields (P : Program) (w : World) (u : TypeId) (e : TypeId) (x : Value) (s : ByteArray) : Prop where
  ty : P.underlying u = some .string ∨ P.underlying u = some (.slice e)
  len : ∀ w', (Builtin.lenOf x).run P w' = .ok s.size w'
  cells : ∀ w', w'.heap = w.heap → (Builtin.firstCells 1 s.size x).run P w' = .ok (Lib.strCells s).toArray w'

theorem run_append_bytes (t u ty e : TypeId) (i : TypeInfo) (ht : P.underlying t = some (.slice e)) (hi : P.info? e = some i) (hz : i.zero = some (.int .u8 0)) (hs1 : i.size = 1) (hb1 : i.bytes = 1)
    {v : Value} {g : Nat} {s0 : ByteArray} (hv : blkOf v = some g) (hI : ByI e s0 v w.heap[g]?) {x : Value} {s : ByteArray} (hy : Yields P w u e x s) (hlen : s0.size + s.size ≤ 140737488355328) :
    ∃ v' w' g', (Builtin.append_ #[t, u] ty #[v, x]).run P w = .ok v' w' ∧ w.grownBy w' (some g) ∧ blkOf v' = some g' ∧ (g' = g ∨ g' = w.heap.size) ∧ g' < w'.heap.size ∧ ByI e (s0 ++ s) v' w'.heap[g']? := by
  obtain ⟨g0, c, cur, fz, rfl, ho, hle, hcs, htake, hfz⟩ := hI
  simp only [blkOf, Option.some.injEq] at hv
  subst hv
  have hglt := (Array.getElem?_eq_some_iff.1 ho).1
  have hlenx := hy.len
  by_cases hroom : s0.size + s.size ≤ c
  · by_cases h0 : s.size = 0
    · have he : s = ByteArray.empty := by
        apply strCells_inj
        rw [List.eq_nil_of_length_eq_zero (l := Lib.strCells s) (by rw [Lib.strCells_length]; exact h0)]; rfl
      subst he
      have hf := hy.cells w rfl
      refine ⟨.slice (some ⟨g0, 0, none⟩) s0.size c, w, g0, ?_, ⟨rfl, rfl, rfl, Nat.le_refl _, fun _ _ _ => rfl⟩, rfl, .inl rfl, hglt, ?_⟩
      · have hn : (Lib.strCells ByteArray.empty) = [] := rfl
        rw [hn] at hf
        have hsz0 : ByteArray.empty.size = 0 := rfl
        rw [hsz0] at hlenx hf
        rcases hy.ty with hu | hu <;> simp [Builtin.append_, run_underlying ht, run_underlying hu, sizeOf, typeInfo, hi, hs1, hlenx, hle, hf, storeCells]
      · have : s0 ++ ByteArray.empty = s0 := by simp
        rw [this]
        exact ⟨g0, c, cur, fz, rfl, ho, hle, hcs, htake, hfz⟩
    · 
      have hf := hy.cells w rfl
      have hst := run_storeCells_ok P g0 s0.size e fz (Lib.strCells s) 0 cur w ho (fun k hk => hfz k (by omega)) (by simp only [Lib.strCells_length]; omega) (Lib.strCells_oneCell s)
      simp only [Nat.add_zero, Lib.strCells_length] at hst
      refine ⟨.slice (some ⟨g0, 0, none⟩) (s0.size + s.size) c, w.setRow g0 (cur.toList.take s0.size ++ Lib.strCells s ++ cur.toList.drop (s0.size + s.size)).toArray, g0, ?_,
        ⟨rfl, rfl, rfl, by simp, fun k _ hk => setRow_other w g0 k _ (fun e => hk (by simp [e]))⟩, rfl, .inl rfl, by simpa using hglt, ?_⟩
      · rcases hy.ty with hu | hu <;> simp [Builtin.append_, run_underlying ht, run_underlying hu, sizeOf, typeInfo, hi, hs1, hlenx, hroom, hf, Addr.add_lit, hst]
      · refine ⟨g0, c, _, fz, by rw [size_append], setRow_heap w g0 cur _ e _ ho, by rw [size_append]; exact hroom, ?_, ?_, hfz⟩
        · simp only [List.size_toArray, List.length_append, List.length_take, List.length_drop, Array.length_toList, Lib.strCells_length]; omega
        · rw [htake, strCells_append, size_append]
          have : (Lib.strCells s0 ++ Lib.strCells s).length = s0.size + s.size := by simp [Lib.strCells_length]
          rw [← this]; exact List.take_left
  · have hn : ¬ (s0.size + s.size ≤ c) := hroom
    have h63' : ¬ (9223372036854775807 < ((s0.size : Int) + (s.size : Int))) := by omega
    have h48' : ¬ (281474976710656 < Builtin.nextslicecap (s0.size + s.size) c * i.bytes) := by rw [hb1]; have := growslice_fits (need := s0.size + s.size) (old := c) (bytes := 1) (by omega) (by omega); omega
    have hf := hy.cells w.drew rfl
    have holds : ∀ j u, (Lib.strCells s0)[j]? = some u → w.cell? ((⟨g0, 0, none⟩ : Addr).add j) = some u := by
      intro j u hu
      have hadd : (⟨g0, 0, none⟩ : Addr).add j = ⟨g0, j, none⟩ := by unfold Addr.add; split <;> simp_all
      rw [hadd, cell_of_row w g0 j cur e fz ho]
      rw [← htake, List.getElem?_take] at hu
      split at hu
      · simpa using hu
      · cases hu
    have hfo := run_firstCells_some (P := P) w.drew 1 s0.size ⟨g0, 0, none⟩ s0.size c (Lib.strCells s0) (by simp [Lib.strCells_length]) (by simpa using holds)
    have hge := grownCap_ge w (s0.size + s.size) c e
    refine ⟨.slice (some ⟨w.heap.size, 0, none⟩) (s0.size + s.size) (grownCap w (s0.size + s.size) c e),
      w.drew.alloc (.cells ((Lib.strCells s0).toArray ++ (Lib.strCells s).toArray ++ Builtin.zeroCells (Value.int .u8 0).cells (grownCap w (s0.size + s.size) c e - (s0.size + s.size))) e),
      w.heap.size, ?_, ⟨rfl, rfl, rfl, by simp, fun k hk _ => by first | exact heap_alloc_old w.drew _ k hk | exact heap_alloc_old w.drew _ hk⟩, rfl, .inr rfl, by simp, ?_⟩
    · rcases hy.ty with hu | hu
      · simp [Builtin.append_, run_underlying ht, run_underlying hu, sizeOf, typeInfo, zeroValue, hi, hz, hs1, hlenx, hn, h63', h48', Question.forced, hf, hfo, newRow, grownCap]
        congr 2
        apply Array.ext'
        simp [List.append_assoc]
      · simp [Builtin.append_, run_underlying ht, run_underlying hu, sizeOf, typeInfo, zeroValue, hi, hz, hs1, hlenx, hn, h63', h48', Question.forced, hf, hfo, newRow, grownCap]
        congr 2
        apply Array.ext'
        simp [List.append_assoc]
    · refine ⟨w.heap.size, _, _, (0, 0), by rw [size_append], heap_alloc_new w.drew _, by rw [size_append]; exact hge, ?_, ?_, fun _ _ h => by simp only at h; omega⟩
      · have hz1 : (Value.int IntKind.u8 0).cells.size = 1 := rfl
        simp only [Array.size_append, List.size_toArray, size_zeroCells, hz1, Lib.strCells_length]
        omega
      · rw [strCells_append, size_append]
        have : (Lib.strCells s0 ++ Lib.strCells s).length = s0.size + s.size := by simp [Lib.strCells_length]
        simp only [Array.toList_append]
        rw [← this]; exact List.take_left

theorem run_append_bytes_nil (t u ty e : TypeId) (i : TypeInfo) (ht : P.underlying t = some (.slice e)) (hi : P.info? e = some i) (hz : i.zero = some (.int .u8 0)) (hs1 : i.size = 1) (hb1 : i.bytes = 1)
    {x : Value} {s : ByteArray} (hy : Yields P w u e x s) (h0 : 0 < s.size) (hlen : s.size ≤ 140737488355328) :
    ∃ v' w' g', (Builtin.append_ #[t, u] ty #[.slice none 0 0, x]).run P w = .ok v' w' ∧ w.grownBy w' none ∧ blkOf v' = some g' ∧ g' = w.heap.size ∧ g' < w'.heap.size ∧ ByI e s v' w'.heap[g']? := by
  have hlenx := hy.len
  have hn : s.size ≠ 0 := by omega
  have h63' : ¬ (9223372036854775807 < (s.size : Int)) := by omega
  have h48' : ¬ (281474976710656 < Builtin.nextslicecap s.size 0 * i.bytes) := by rw [hb1]; have := growslice_fits (need := s.size) (old := 0) (bytes := 1) (by omega) (by omega); omega
  have hf := hy.cells w.drew rfl
  have hge := grownCap_ge w s.size 0 e
  refine ⟨.slice (some ⟨w.heap.size, 0, none⟩) s.size (grownCap w s.size 0 e),
    w.drew.alloc (.cells ((Lib.strCells s).toArray ++ Builtin.zeroCells (Value.int .u8 0).cells (grownCap w s.size 0 e - s.size)) e),
    w.heap.size, ?_, ⟨rfl, rfl, rfl, by simp, fun k hk _ => by first | exact heap_alloc_old w.drew _ k hk | exact heap_alloc_old w.drew _ hk⟩, rfl, rfl, by simp, ?_⟩
  · rcases hy.ty with hu | hu
    · simp [Builtin.append_, run_underlying ht, run_underlying hu, sizeOf, typeInfo, zeroValue, hi, hz, hs1, hlenx, hn, h63', h48', Question.forced, hf, newRow, grownCap, run_firstCells_none]
    · simp [Builtin.append_, run_underlying ht, run_underlying hu, sizeOf, typeInfo, zeroValue, hi, hz, hs1, hlenx, hn, h63', h48', Question.forced, hf, newRow, grownCap, run_firstCells_none]
  · refine ⟨w.heap.size, _, _, (0, 0), rfl, heap_alloc_new w.drew _, hge, ?_, ?_, fun _ _ h => by simp only at h; omega⟩
    · have hz1 : (Value.int IntKind.u8 0).cells.size = 1 := rfl
      simp only [Array.size_append, List.size_toArray, size_zeroCells, hz1, Lib.strCells_length]
      omega
    · simp only [Array.toList_append]
      rw [← Lib.strCells_length]; exact List.take_left
end
end Go.Abs

set_option linter.unusedVariables false
set_option linter.unusedSimpArgs false
namespace Go.Abs
open Go Go.RowKit

section
variable {P : Program} {Γ : Ctx} {fr : List (Nat × V)} {hp hp' : List (Nat × Blk)} {U : Nat → Prop} {a : Act} {w w' : World} {m : Nat → Value} {tk : Nat} {L : List (Use P)} {o : Oper}
  {K : Act → World → Prop} {Q : Exit → Act → World → Prop}

/-- A block of the run's own is turned into another one, or a new one is made. -/
theorem Rel.renewI (hR : Rel Γ fr hp U a w m) (htk : ¬ U tk) {g : List Nat} {bk : Option Nat} (hg : w.grownBy w' bk) (hbk : ∀ g', bk = some g' → ∃ t0 b0, lk hp t0 = some b0 ∧ t0 ∈ g ∧ blkOf (m t0) = some g')
    {v' : Value} {g1 : Nat} (hv' : blkOf v' = some g1) (hg1 : bk = some g1 ∨ g1 = w.heap.size) (hlt1 : g1 < w'.heap.size) {I : Value → Option Obj → Prop} (hI : I v' w'.heap[g1]?) :
    Rel Γ fr ((tk, .inv I) :: delAll hp g) (also U tk) a w' (upm m tk v') := by
  have H := hR.mem
  have hblk : ∀ g', bk = some g' → g' < w.heap.size ∧ (Γ.w0.heap.size ≤ g' ∨ ∃ t0, t0 < Γ.n0 ∧ blkOf (Γ.m0 t0) = some g' ∧ lk (delAll hp g) t0 = none) ∧ ¬ Γ.F g' ∧ (∀ t b, lk (delAll hp g) t = some b → blkOf (m t) ≠ some g') ∧ ∀ p v, Cw Γ.F hp m w p v → p.block ≠ g' := by
    intro g' hg'
    obtain ⟨t0, b0, h0, hmem, hb0⟩ := hbk g' hg'
    refine ⟨(H.hb _ _ h0).lt hb0, ?_, H.nF _ _ _ h0 hb0, fun t b ht e => ?_, fun p v hc e => hc.far _ _ h0 (by rw [hb0, e])⟩
    · rcases Nat.lt_or_ge t0 Γ.n0 with hlt | hge
      · exact .inr ⟨t0, hlt, by rw [← H.old t0 hlt]; exact hb0, by rw [lk_delAll, if_pos hmem]⟩
      · refine (H.new _ _ _ h0 hb0 hge).imp id fun ⟨t1, i1, i2, i3⟩ => ⟨t1, i1, i2, ?_⟩
        rw [lk_delAll]; split
        · rfl
        · exact i3
    · rw [lk_delAll] at ht
      split at ht
      · cases ht
      · rename_i hne
        have : t = t0 := H.sep t t0 b _ g' ht h0 e hb0
        exact hne (this ▸ hmem)
  have hnewb : (Γ.w0.heap.size ≤ g1 ∨ ∃ t0, t0 < Γ.n0 ∧ blkOf (Γ.m0 t0) = some g1 ∧ lk (delAll hp g) t0 = none) ∧ ¬ Γ.F g1 ∧ (∀ t b, lk (delAll hp g) t = some b → blkOf (m t) ≠ some g1) ∧ ∀ p v, Cw Γ.F hp m w p v → p.block ≠ g1 := by
    rcases hg1 with h5 | rfl
    · exact (hblk g1 h5).2
    · refine ⟨.inl H.keeps.size, fun hf => ?_, fun t b ht e => ?_, fun p v hc e => ?_⟩
      · have := (H.hF _ hf).1; have := H.keeps.size; omega
      · have := (H.hb t b (delAll_sub t b ht)).lt e; omega
      · have := hc.lt; omega
  have hkeep : ∀ g', g' < w.heap.size → bk ≠ some g' → w'.heap[g']? = w.heap[g']? := fun g' hg' hne => hg.block g' hg' (fun e => hne e.symm)
  have hC : ∀ p v, Cw Γ.F hp m w p v → Cw Γ.F ((tk, .inv I) :: delAll hp g) (upm m tk v') w' p v := fun p v hc' => by
    refine ⟨(World.cell?_of_block (w := w) (hkeep _ hc'.lt (fun e => (hblk _ e).2.2.2.2 p v hc' rfl))).trans hc'.cell, hc'.notF, fun t b0 ht => ?_⟩
    rw [lk_cons] at ht
    by_cases h : tk = t
    · subst h
      rw [upm_self, hv']
      intro e
      exact hnewb.2.2.2 p v hc' (Option.some.inj e).symm
    · rw [if_neg h] at ht
      rw [upm_ne _ _ (fun e => h e.symm)]
      exact hc'.far t b0 (delAll_sub t b0 ht)
  refine hR.turn hC (upm_lt m _ htk) (fun _ h => .inl h) ?_
  refine ⟨fun t b0 ht => ?_, fun t t' b1 b2 g' q1 q2 f1 f2 => ?_, fun t b0 ht => ?_, fun t b0 g' ht hg' hn => ?_, fun t ht => by rw [upm_ne _ _ (by intro e; subst e; exact htk (H.n0 _ ht))]; exact H.old t ht, fun t ht => .inl (H.n0 t ht), fun t b0 g' ht hg' => ?_, H.hF, ?_⟩
  · rw [lk_cons] at ht
    by_cases h : tk = t
    · subst h
      rw [if_pos rfl] at ht
      obtain rfl := Option.some.inj ht
      exact ⟨g1, by rw [upm_self]; exact hv', hlt1, by rw [upm_self]; exact hI⟩
    · rw [if_neg h] at ht
      have ht' := delAll_sub t b0 ht
      refine (H.hb t b0 ht').mono hC (upm_lt m _ htk) (fun _ h => .inl h) (H.lt t b0 ht') (fun g' hg' => hkeep g' ((H.hb t b0 ht').lt hg') (fun e => (hblk g' e).2.2.2.1 t b0 ht hg'))
  · rw [lk_cons] at q1 q2
    by_cases c1 : tk = t <;> by_cases c2 : tk = t'
    · omega
    · subst c1
      rw [if_neg c2] at q2
      rw [upm_self, hv'] at f1
      rw [upm_ne _ _ (fun e => c2 e.symm)] at f2
      obtain rfl := Option.some.inj f1
      exact absurd f2 (hnewb.2.2.1 t' b2 q2)
    · subst c2
      rw [if_neg c1] at q1
      rw [upm_self, hv'] at f2
      rw [upm_ne _ _ (fun e => c1 e.symm)] at f1
      obtain rfl := Option.some.inj f2
      exact absurd f1 (hnewb.2.2.1 t b1 q1)
    · rw [if_neg c1] at q1
      rw [if_neg c2] at q2
      rw [upm_ne _ _ (fun e => c1 e.symm)] at f1
      rw [upm_ne _ _ (fun e => c2 e.symm)] at f2
      exact H.sep t t' b1 b2 g' (delAll_sub _ _ q1) (delAll_sub _ _ q2) f1 f2
  · rw [lk_cons] at ht
    by_cases h : tk = t
    · exact .inr h.symm
    · rw [if_neg h] at ht; exact .inl (H.lt t b0 (delAll_sub _ _ ht))
  · rw [lk_cons] at ht
    by_cases h : tk = t
    · subst h; rw [upm_self, hv'] at hg'
      obtain rfl := Option.some.inj hg'
      exact hnewb.1.imp id fun ⟨t1, i1, i2, i3⟩ => ⟨t1, i1, i2, by rw [lk_cons_ne _ _ (by intro e; subst e; exact htk (H.n0 _ i1))]; exact i3⟩
    · rw [if_neg h] at ht
      rw [upm_ne _ _ (fun e => h e.symm)] at hg'
      refine (H.new t b0 g' (delAll_sub _ _ ht) hg' hn).imp id fun ⟨t1, i1, i2, i3⟩ => ⟨t1, i1, i2, ?_⟩
      rw [lk_cons_ne _ _ (by intro e; subst e; exact htk (H.n0 _ i1)), lk_delAll]; split
      · rfl
      · exact i3
  · rw [lk_cons] at ht
    by_cases h : tk = t
    · subst h; rw [upm_self, hv'] at hg'; obtain rfl := Option.some.inj hg'; exact hnewb.2.1
    · rw [if_neg h] at ht
      rw [upm_ne _ _ (fun e => h e.symm)] at hg'
      exact H.nF t b0 g' (delAll_sub _ _ ht) hg'
  · refine ⟨hg.os.trans H.keeps.os, hg.tape.trans H.keeps.tape, hg.output.trans H.keeps.output, Nat.le_trans H.keeps.size hg.size, fun g' hlt hn => ?_⟩
    rw [hkeep g' (Nat.lt_of_lt_of_le hlt H.keeps.size) (fun e => by
      rcases (hblk g' e).2.1 with h0 | ⟨t1, i1, i2, _⟩
      · omega
      · exact hn t1 i1 i2)]
    exact H.keeps.block g' hlt hn

/-- What is appended. -/
theorem bytesV_yields {e t t' : TypeId} (hb : byteT P e = true) (ht : P.underlying t = some (.slice e)) (hR : Rel Γ fr hp U a w m) {vy : V} {u : Value} (hy : RV (Cw Γ.F hp m w) m U vy u) {s : ByteArray} {p : Prop} (h : bytesV P hp t t' vy = some (s, p)) (hp0 : p) : Yields P w t' e u s := by
  obtain ⟨i, hi, hs1, hb1, hz, hu8⟩ := byteT_eq hb
  unfold bytesV at h
  split at h
  · rename_i s0
    cases hst : strT P t' with
    | false => rw [hst] at h; cases h
    | true =>
      rw [hst] at h
      simp only [cond_true, Option.some.injEq, Prod.mk.injEq] at h
      obtain ⟨rfl, _⟩ := h
      rw [hy.lit_inv]
      refine ⟨.inl ?_, fun w' => by simp [Builtin.lenOf], fun w' _ => Lib.run_firstCells_string w' 1 s0⟩
      unfold strT at hst
      split at hst
      · assumption
      · cases hst
  · split at h
    · rename_i htt; subst htt
      split at h
      · rename_i l hv
        simp only [Option.some.injEq, Prod.mk.injEq] at h
        obtain ⟨rfl, rfl⟩ := h
        have hlen : ∀ row ∈ l, row.length = 1 := by
          rw [← hp0]
          intro row hrow
          obtain ⟨b, _, rfl⟩ := List.mem_map.1 hrow
          rfl
        obtain ⟨A, c, vals, rfl, hvl, hvc, hv1, hvd⟩ := rows_cells hR.mem hy hv hlen (by omega)
        have hsz : (bytesOf l).size = l.length := by simp [bytesOf, ByteArray.size]
        have hvals : vals = Lib.strCells (bytesOf l) := by
          apply List.ext_getElem?
          intro j
          rcases Nat.lt_or_ge j l.length with hj | hj
          · have hrow : l[j]? = some [.lit (.int .u8 ((bytesOf l).data.toList[j]'(by simpa [bytesOf] using hj)).toNat)] := by
              have := congrArg (·[j]?) hp0
              simp only [rowsOf, List.getElem?_map] at this
              rw [← this, List.getElem?_eq_getElem (by simpa [bytesOf] using hj)]
              rfl
            obtain ⟨v, hv, hd⟩ := hvd j _ hrow 0 _ rfl
            rw [Nat.mul_one, Nat.add_zero] at hv
            cases hd
            rw [hv, Lib.strCells, List.getElem?_map, List.getElem?_eq_getElem (by simpa [bytesOf] using hj)]
            rfl
          · rw [List.getElem?_eq_none (by omega), List.getElem?_eq_none (by rw [Lib.strCells_length]; omega)]
        refine ⟨.inr ht, fun w' => by simp [Builtin.lenOf, hsz], fun w' hw' => ?_⟩
        cases A with
        | none =>
          have : l.length = 0 := by
            rcases Nat.eq_zero_or_pos l.length with h | h
            · exact h
            · obtain ⟨ad, e, _⟩ := hvc 0 (vals[0]'(by omega)) (by simp)
              cases e
          rw [hsz, this, ← hvals, List.eq_nil_of_length_eq_zero (l := vals) (by omega)]
          exact run_firstCells_none w' 1 0 0 c
        | some ad =>
          rw [hsz, ← hvals]
          refine run_firstCells_some w' 1 l.length ad l.length c vals (by omega) (fun j v hj => ?_)
          obtain ⟨ad', e, hc⟩ := hvc j v hj
          obtain rfl := Option.some.inj e
          exact (World.cell?_of_block (w := w) (by rw [hw'])).trans hc
      · cases h
    · cases h

theorem HBinv {t : Nat} {I : Value → Option Obj → Prop} (hR : Rel Γ fr hp U a w m) (h : lk hp t = some (.inv I)) : ∃ g, blkOf (m t) = some g ∧ g < w.heap.size ∧ I (m t) w.heap[g]? := hR.mem.hb t _ h

theorem sound_appendB {x y : Operand} {t t' : TypeId} {vx vy : V} {q : Rs P} {c : Call} (ho : o.op = .call c) (hc : c.callee = .builtin .append) (ha : c.args = #[x, y]) (hat : c.argTypes = #[t, t']) (hx : eo fr x = some vx) (hy : eo fr y = some vy)
    (h : appendB P hp tk t t' vx vy L = some q) : Sound P Γ fr hp U tk o q := by
  unfold appendB at h
  split at h
  · rename_i e s p he hbe hby
    have hbt : byteT P e = true := by simpa [byteE, he] using hbe
    obtain ⟨i, hi, hs1, hb1, hz, hu8⟩ := byteT_eq hbt
    have ht := elemT_eq he
    split at h
    · obtain rfl := Option.some.inj h
      intro a w m K Q hR htk hp' hd hK
      obtain ⟨hp0, h0, hle⟩ := hp'
      have hY := bytesV_yields hbt ht hR (eo_rel hR hy) hby hp0
      have ex : a.eval x = .slice none 0 0 := (eo_rel hR hx).lit_inv
      obtain ⟨v', w', g', h1, h2, h3, h4, h5, h6⟩ := run_append_bytes_nil w t t' o.type e i ht hi hz hs1 hb1 hY h0 hle
      have hex : (execOp a.eval o).run P w = .ok (.value v') w' := by simp [execOp, ho, resolve, hc, ha, hat, invoke, builtin, ex, h1]
      have hR2 := hR.renewI (g := []) htk h2 (fun _ e => by cases e) h3 (.inr h4) h5 h6
      have hone : v'.oneCell' = true := by obtain ⟨_, _, _, _, e1, _⟩ := h6; rw [e1]; rfl
      have h7 := rel_putA (o := o) hR2 hd (RV.own (C := Cw Γ.F ((tk, .inv (ByI e s)) :: delAll hp []) (upm m tk v') w') tk (U := also U tk) (m := upm m tk v') (.inr rfl) (by rw [upm_self]; exact hone))
      rw [upm_self] at h7
      exact wp_value hex (hK _ _ (upm m tk v') h7 (put_defers a _ _))
    · rename_i k
      split at h
      · rename_i I hk
        obtain rfl := Option.some.inj h
        intro a w m K Q hR htk hp' hd hK
        obtain ⟨hp0, ⟨s0, rfl⟩, hle⟩ := hp'
        have hs1' := txtI_ByI e s0
        generalize txtI e (ByI e s0) = s1 at hK hle hs1'
        subst hs1'
        have hY := bytesV_yields hbt ht hR (eo_rel hR hy) hby hp0
        obtain ⟨g, hg, hgl, hI⟩ := HBinv hR hk
        have hrx := eo_rel hR hx
        have ex : a.eval x = m k := by generalize a.eval x = cx at hrx; cases hrx; rfl
        obtain ⟨v', w', g', h1, h2, h3, h4, h5, h6⟩ := run_append_bytes w t t' o.type e i ht hi hz hs1 hb1 hg hI hY hle
        have hex : (execOp a.eval o).run P w = .ok (.value v') w' := by simp [execOp, ho, resolve, hc, ha, hat, invoke, builtin, ex, h1]
        have hR2 := hR.renewI (g := [k]) htk h2 (fun g2 e => ⟨k, _, hk, by simp, by rw [hg]; exact e⟩) h3 (h4.imp (fun e => by rw [e]) id) h5 h6
        have hone : v'.oneCell' = true := by obtain ⟨_, _, _, _, e1, _⟩ := h6; rw [e1]; rfl
        have h7 := rel_putA (o := o) hR2 hd (RV.own (C := Cw Γ.F ((tk, .inv (ByI e (s1 ++ s))) :: delAll hp [k]) (upm m tk v') w') tk (U := also U tk) (m := upm m tk v') (.inr rfl) (by rw [upm_self]; exact hone))
        rw [upm_self] at h7
        exact wp_value hex (hK _ _ (upm m tk v') h7 (put_defers a _ _))
      · cases h
    · cases h
  · cases h

theorem sound_convB {s t : TypeId} {x : Operand} {k : Nat} {q : Rs P} (ho : o.op = .convert s t x) (hx : eo fr x = some (.own k)) (h : convB P tk k s t L (lk hp k) = some q) : Sound P Γ fr hp U tk o q := by
  cases hk : lk hp k with
  | none => rw [hk] at h; cases h
  | some b =>
  rw [hk] at h
  cases b with
  | var _ _ => cases h
  | dead => cases h
  | row e sz l =>
    simp only [convB] at h
    split at h
    · rename_i hcc
      obtain ⟨rfl, rfl, he, hbt⟩ := hcc
      obtain ⟨i, hi, hs1, hb1, hz, hu8⟩ := byteT_eq hbt
      have ht := elemT_eq he
      obtain rfl := Option.some.inj h
      intro a w m K Q hR htk hp' hd hK
      obtain ⟨h0, hrows⟩ := hp'
      have hrx := eo_rel hR hx
      have ex : a.eval x = m k := by generalize a.eval x = cx at hrx; cases hrx; rfl
      obtain ⟨xs, hown, hrow, hO, hv⟩ := hR.mem.hb _ _ hk
      have hsz : (bytesOf l).size = l.length := by simp [bytesOf, ByteArray.size]
      have hxs : xs = Lib.strCells (bytesOf l) := by
        have hxl : xs.length = l.length * 1 := hown.1
        apply List.ext_getElem?
        intro j
        rcases Nat.lt_or_ge j l.length with hj | hj
        · have hrow : l[j]? = some [.lit (.int .u8 ((bytesOf l).data.toList[j]'(by simpa [bytesOf] using hj)).toNat)] := by
            have := congrArg (·[j]?) hrows
            simp only [rowsOf, List.getElem?_map] at this
            rw [← this, List.getElem?_eq_getElem (by simpa [bytesOf] using hj)]
            rfl
          obtain ⟨v, hv', hd⟩ := hv j _ hrow 0 _ rfl
          rw [Nat.mul_one, Nat.add_zero] at hv'
          cases hd
          rw [hv', Lib.strCells, List.getElem?_map, List.getElem?_eq_getElem (by simpa [bytesOf] using hj)]
          rfl
        · rw [List.getElem?_eq_none (by omega), List.getElem?_eq_none (by rw [Lib.strCells_length]; omega)]
      rcases hown.2 with ⟨e1, e2⟩ | ⟨g, cap, cur, e1, _, hg, hle, hcap, hcs, htake⟩
      · omega
      · have hshape : w.shape? g = some (e, cur.size) := by simp [World.shape?, hg]
        have hex : (execOp a.eval o).run P w = .ok (.value (m k)) (w.freeze ⟨g, cur.size, none⟩ 1) := by
          simp [execOp, ho, ex, e1, convert, run_underlying ht, run_underlying hu8, markStringish, hshape]
        have hgl : g < w.heap.size := (Array.getElem?_eq_some_iff.1 hg).1
        have hfrz : (w.freeze ⟨g, cur.size, none⟩ 1).heap[g]? = some (.cells cur e (cur.size, cur.size + 1)) := by
          simp only [World.freeze, if_neg (by decide : ¬ (1 = 0))]
          rw [Array.getElem?_eq_getElem (by simpa using hgl), Array.getElem_modify_self]
          have hv : w.heap[g] = .cells cur e (0, 0) := (Array.getElem?_eq_some_iff.1 hg).2
          simp [hv]
        have hR2 := hR.renewI (g := [k]) (w' := w.freeze ⟨g, cur.size, none⟩ 1) (bk := some g) (v' := m k) (I := ByI e (bytesOf l)) htk
          ⟨rfl, rfl, rfl, by simp [World.freeze], fun k' hk' hne => by
            simp only [World.freeze, if_neg (by decide : ¬ (1 = 0))]
            rw [Array.getElem?_modify, if_neg (fun e9 => hne (by rw [← e9]))]⟩
          (fun g2 e9 => ⟨k, _, hk, by simp, by rw [e1]; exact e9⟩) (by rw [e1]; rfl) (.inl rfl) (by simpa [World.freeze] using hgl)
          ⟨g, cap, cur, (cur.size, cur.size + 1), by rw [e1, hsz], hfrz, by rw [hsz]; exact hle, by rw [hcs, Nat.mul_one], by rw [hsz, ← hxs, ← htake, Nat.mul_one], fun k' hk' h9 => by simp only [Nat.mul_one] at hcs h9; omega⟩
        have hone : (m k).oneCell' = true := by rw [e1]; rfl
        have h7 := rel_putA (o := o) hR2 hd (RV.own (C := Cw Γ.F ((tk, .inv (ByI e (bytesOf l))) :: delAll hp [k]) (upm m tk (m k)) (w.freeze ⟨g, cur.size, none⟩ 1)) tk (U := also U tk) (m := upm m tk (m k)) (.inr rfl) (by rw [upm_self]; exact hone))
        rw [upm_self] at h7
        exact wp_value hex (hK _ _ (upm m tk (m k)) h7 (put_defers a _ _))
    · cases h
  | inv I =>
    simp only [convB] at h
    split at h
    · rename_i e hst he
      split at h
      · rename_i hbt
        obtain ⟨i, hi, hs1, hb1, hz, hu8⟩ := byteT_eq hbt
        have ht := elemT_eq he
        have hstr : P.underlying t = some .string := by
          unfold strT at hst
          split at hst
          · assumption
          · cases hst
        obtain rfl := Option.some.inj h
        intro a w m K Q hR htk hp' hd hK
        obtain ⟨s0, rfl⟩ := hp'
        have hs1' := txtI_ByI e s0
        generalize txtI e (ByI e s0) = s1 at hK hs1'
        subst hs1'
        obtain ⟨g, hg, hgl, hI⟩ := HBinv hR hk
        obtain ⟨g0, c, cur, fz, em, hob, hle, hcs, htake, hfz⟩ := hI
        have hrx := eo_rel hR hx
        have ex : a.eval x = m k := by generalize a.eval x = cx at hrx; cases hrx; rfl
        rw [em] at hg
        simp only [blkOf, Option.some.injEq] at hg
        subst hg
        have hex : (execOp a.eval o).run P w = .ok (.value (.string s1)) w := by
          have h9 := run_convert_bytes_string (P := P) w s t e (some ⟨g0, 0, none⟩) s1.size c ht hu8 hstr
          have hcells : (Lib.strCells s1) = (s1.data.toList.map fun b => (b.toNat : Int)).map (Value.int .u8) := by simp [Lib.strCells]
          have h8 : (loadCells ⟨g0, 0, none⟩ s1.size).run P w = .ok ((s1.data.toList.map fun b => (b.toNat : Int)).map (Value.int .u8)).toArray w := by
            rw [← hcells, ← Lib.strCells_length]
            refine run_loadCells_list w ⟨g0, 0, none⟩ (Lib.strCells s1) (fun j v hv => ?_)
            have hadd : (⟨g0, 0, none⟩ : Addr).add j = ⟨g0, j, none⟩ := by unfold Addr.add; split <;> simp_all
            rw [hadd, cell_of_row w g0 j cur e fz hob]
            rw [← htake, List.getElem?_take] at hv
            split at hv
            · simpa using hv
            · cases hv
          have h10 := run_bytesToString (P := P) w ⟨g0, 0, none⟩ s1.size c _ h8
          rw [foldl_push_byteCells] at h10
          simp only [execOp, ho, ex, em, Sem.run_bind, h9, h10, Result.andThen_ok, Sem.run_pure]
          simp
        exact wp_value hex (hK _ _ m ((rel_putA (o := o) hR hd (RV.d (C := Cw Γ.F hp m w) (U := U) (m := m) (RD.lit (.string s1)))).given fun t h => .inl h) (put_defers a _ _))
      · cases h
    · cases h
end
end Go.Abs

set_option linter.unusedVariables false
set_option linter.unusedSimpArgs false
namespace Go.Abs
open Go Go.RowKit

theorem ints_inj : ∀ {a b : List Int}, a.map (Value.int .i64) = b.map (Value.int .i64) → a = b
  | [], [], _ => rfl
  | [], _ :: _, h => by simp at h
  | _ :: _, [], h => by simp at h
  | x :: r, y :: q, h => by
    simp only [List.map_cons, List.cons.injEq, Value.int.injEq, true_and] at h
    rw [h.1, ints_inj h.2]
theorem encM_inj : ∀ {M M' : List (Int × List Int)}, encM M = encM M' → M = M' := by
  intro M M' h
  unfold encM at h
  simp only [Value.tuple.injEq] at h
  have h := congrArg Array.toList h
  simp only [List.toList_toArray] at h
  have key : ∀ (a b : List (Int × List Int)), (a.map fun p => Value.tuple ((p.1 :: p.2).map (Value.int .i64)).toArray) = (b.map fun p => Value.tuple ((p.1 :: p.2).map (Value.int .i64)).toArray) → a = b := by
    intro a
    induction a with
    | nil => intro b h; cases b with
      | nil => rfl
      | cons => simp at h
    | cons p r ih => intro b h; cases b with
      | nil => simp at h
      | cons q s =>
        rw [List.map_cons, List.map_cons] at h
        injection h with h1 h2
        injection h1 with h1
        have h1 := congrArg Array.toList h1
        rw [List.toList_toArray, List.toList_toArray] at h1
        have h3 := ints_inj (a := p.1 :: p.2) (b := q.1 :: q.2) h1
        injection h3 with h3 h4
        rw [ih s h2]
        cases p; cases q
        simp only at h3 h4
        rw [h3, h4]
  exact key _ _ h
theorem MapI_inj {P : Program} {kt : TypeId} {M M' : List (Int × List Int)} (h : MapI P kt M = MapI P kt M') : M = M' := by
  have h1 : MapI P kt M (encM M) none := .inr ⟨rfl, rfl⟩
  rw [h] at h1
  rcases h1 with ⟨_, _, _, _, h2, _⟩ | ⟨h2, _⟩
  · cases h2
  · exact encM_inj h2
theorem mapM_MapI (P : Program) (kt : TypeId) (M : List (Int × List Int)) : mapM' P kt (MapI P kt M) = M := by
  unfold mapM'
  rw [dif_pos ⟨M, rfl⟩]
  exact (MapI_inj (Exists.choose_spec (⟨M, rfl⟩ : ∃ M', MapI P kt M = MapI P kt M'))).symm
theorem MapP_MapI (P : Program) (kt : TypeId) (M : List (Int × List Int)) : MapP P kt (MapI P kt M) = True := eq_true ⟨M, rfl⟩

theorem dM_isMap : ∀ M : List (Int × List Int), Maps.IsMap (dM M)
  | [] => Maps.isMap_empty
  | (k, vs) :: M => (dM_isMap M).put _ _
theorem lit_ne {a b : Int} (h : a ≠ b) : (Lit.int .i64 a) ≠ .int .i64 b := fun e => h (by injection e)
theorem dM_has : ∀ (M : List (Int × List Int)) (x : Int), Maps.has (dM M) (.int .i64 x) = (getM M x).isSome
  | [], x => rfl
  | (k, vs) :: M, x => by
    rw [dM, getM]
    by_cases h : x = k
    · subst h; rw [if_pos rfl, Maps.has_put_same (k := .int .i64 x) (dM_isMap M) trivial]; rfl
    · rw [if_neg h, Maps.has_put_other (lit_ne h), dM_has M x]
theorem dM_at : ∀ (M : List (Int × List Int)) (x : Int) (zs : List Int), (dM M).atKey (.int .i64 x) (.agg (zs.map fun a => .lit (.int .i64 a))) = .agg (((getM M x).getD zs).map fun a => .lit (.int .i64 a))
  | [], x, zs => rfl
  | (k, vs) :: M, x, zs => by
    rw [dM, getM]
    by_cases h : x = k
    · subst h; rw [if_pos rfl, Maps.atKey_put_same (k := .int .i64 x) (dM_isMap M) trivial]; rfl
    · rw [if_neg h, Maps.atKey_put_other (lit_ne h), dM_at M x zs]
theorem intL_eq : ∀ {vs : List Value} {l : List Int}, intL vs = some l → vs = l.map (Value.int .i64)
  | [], l, h => by obtain rfl := Option.some.inj h; rfl
  | v :: r, l, h => by
    cases v with
    | int q a =>
      cases q with
      | i64 =>
        obtain ⟨l', h2, rfl⟩ := Option.map_eq_some_iff.1 h
        rw [List.map_cons, ← intL_eq h2]
      | _ => cases h
    | _ => cases h
theorem intL_mk : ∀ l : List Int, intL (l.map (Value.int .i64)) = some l
  | [] => rfl
  | a :: r => by rw [List.map_cons, intL, intL_mk r]; rfl
theorem Rp_mk (l : List Int) : Rp (.agg (l.map (Value.int .i64)).toArray) = some (.agg (l.map fun a => .lit (.int .i64 a)), []) := by
  rw [Rp, List.toList_toArray, intL_mk]; rfl
theorem lits_inj : ∀ {a b : List Int}, a.map (fun a => (DataW.lit (.int .i64 a) : DataW Unit)) = b.map (fun a => DataW.lit (.int .i64 a)) → a = b
  | [], [], _ => rfl
  | [], _ :: _, h => by simp at h
  | _ :: _, [], h => by simp at h
  | x :: r, y :: q, h => by
    simp only [List.map_cons, List.cons.injEq, DataW.lit.injEq, Lit.int.injEq, true_and] at h
    rw [h.1, lits_inj h.2]
theorem Rp_inv {v : Value} {l : List Int} {ps : List MemPlace} (h : Rp v = some (.agg (l.map fun a => .lit (.int .i64 a)), ps)) : v = .agg (l.map (Value.int .i64)).toArray := by
  cases v with
  | agg vs =>
    obtain ⟨l', h2, h3⟩ := Option.map_eq_some_iff.1 h
    simp only [Prod.mk.injEq, DataW.agg.injEq] at h3
    have := lits_inj h3.1
    subst this
    have := intL_eq h2
    rw [← this]
  | _ => cases h

section
variable {P : Program} {Γ : Ctx} {fr : List (Nat × V)} {hp hp' : List (Nat × Blk)} {U : Nat → Prop} {a : Act} {w w' : World} {m : Nat → Value} {tk : Nat} {L : List (Use P)} {o : Oper}
  {K : Act → World → Prop} {Q : Exit → Act → World → Prop}

theorem Cw.written {F : Nat → Prop} {k g : Nat} {b b' : Blk} (hk : lk hp k = some b) (hg : blkOf (m k) = some g) (hold : ∀ g', g' < w.heap.size → g' ≠ g → w'.heap[g']? = w.heap[g']?) {p : Addr} {v : Value} (h : Cw F hp m w p v) : Cw F (sto hp k b') m w' p v := by
  have hne : p.block ≠ g := fun e => h.far k b hk (by rw [hg, e])
  refine ⟨?_, h.notF, fun t b0 ht => ?_⟩
  · rw [World.cell?_of_block (w := w) (hold p.block h.lt hne)]; exact h.cell
  · rw [lk_sto] at ht
    by_cases e : t = k
    · subst e; exact h.far t b hk
    · rw [if_neg e] at ht; exact h.far t b0 ht

theorem RelH.written (H : RelH Γ hp U w m) {k g : Nat} {b b' : Blk} (hk : lk hp k = some b) (hg : blkOf (m k) = some g) (hold : ∀ g', g' < w.heap.size → g' ≠ g → w'.heap[g']? = w.heap[g']?) (hs : w.heap.size ≤ w'.heap.size)
    (ho : w'.os = w.os) (ht : w'.tape = w.tape) (hu : w'.output = w.output) (hB : HB (Cw Γ.F (sto hp k b') m w') m U w' k b') : RelH Γ (sto hp k b') U w' m := by
  have hC : ∀ p v, Cw Γ.F hp m w p v → Cw Γ.F (sto hp k b') m w' p v := fun p v hc => hc.written hk hg hold
  refine ⟨fun t b0 ht => ?_, fun t t' b1 b2 g' h1 h2 e1 e2 => ?_, fun t b0 ht => ?_, fun t b0 g' ht hg' hn => ?_, H.old, H.n0, fun t b0 g' ht hg' => ?_, H.hF, ?_⟩
  · rw [lk_sto] at ht
    by_cases e : t = k
    · subst e
      rw [if_pos rfl] at ht
      obtain rfl := Option.some.inj ht
      exact hB
    · rw [if_neg e] at ht
      exact (H.hb t b0 ht).mono hC (fun _ _ => rfl) (fun _ h => h) (H.lt t b0 ht) (fun g' hg' => hold g' ((H.hb t b0 ht).lt hg') (fun e' => e (H.sep t k b0 b g' ht hk hg' (by rw [hg, e']))))
  · have f : ∀ t b0, lk (sto hp k b') t = some b0 → ∃ b1, lk hp t = some b1 := fun t b0 ht => by
      rw [lk_sto] at ht
      by_cases e : t = k
      · subst e; exact ⟨b, hk⟩
      · rw [if_neg e] at ht; exact ⟨_, ht⟩
    obtain ⟨c1, h1'⟩ := f t b1 h1
    obtain ⟨c2, h2'⟩ := f t' b2 h2
    exact H.sep t t' c1 c2 g' h1' h2' e1 e2
  · rw [lk_sto] at ht
    by_cases e : t = k
    · subst e; exact H.lt t b hk
    · rw [if_neg e] at ht; exact H.lt t b0 ht
  · rw [lk_sto] at ht
    have keepn : ∀ t0, lk hp t0 = none → lk (sto hp k b') t0 = none := fun t0 h0 => by
      rw [lk_sto, if_neg (by intro e; subst e; rw [hk] at h0; cases h0)]; exact h0
    by_cases e : t = k
    · subst e; exact (H.new t b g' hk hg' hn).imp id fun ⟨t0, i1, i2, i3⟩ => ⟨t0, i1, i2, keepn t0 i3⟩
    · rw [if_neg e] at ht; exact (H.new t b0 g' ht hg' hn).imp id fun ⟨t0, i1, i2, i3⟩ => ⟨t0, i1, i2, keepn t0 i3⟩
  · rw [lk_sto] at ht
    by_cases e : t = k
    · subst e; exact H.nF t b g' hk hg'
    · rw [if_neg e] at ht; exact H.nF t b0 g' ht hg'
  · refine ⟨ho.trans H.keeps.os, ht.trans H.keeps.tape, hu.trans H.keeps.output, Nat.le_trans H.keeps.size hs, fun g' hlt hn => ?_⟩
    by_cases e : g' = g
    · subst e
      exfalso
      rcases Nat.lt_or_ge k Γ.n0 with hkn | hkn
      · exact hn k hkn (by rw [← H.old k hkn]; exact hg)
      · rcases H.new k b g' hk hg hkn with h0 | ⟨t0, i1, i2, _⟩
        · omega
        · exact hn t0 i1 i2
    · rw [hold g' (Nat.lt_of_lt_of_le hlt H.keeps.size) e]; exact H.keeps.block g' hlt hn


theorem mapT_eq {t k e : Nat} (h : mapT P t = some (k, e)) : P.underlying t = some (.map k e) ∧ P.underlying k = some (.int .i64) := by
  unfold mapT at h
  split at h
  · rename_i k' e' ht
    split at h
    · rename_i hk
      simp only [Option.some.injEq, Prod.mk.injEq] at h
      obtain ⟨rfl, rfl⟩ := h
      exact ⟨ht, hk⟩
    · cases h
  · cases h
theorem wf64 {k : Int} (h0 : -9223372036854775808 ≤ k) (h1 : k ≤ 9223372036854775807) : (Lit.int .i64 k).wf = true := by
  simp [Lit.wf, IntKind.min, IntKind.max, IntKind.bits, IntKind.signed]; omega
theorem rv_ints {C : Addr → Value → Prop} (l : List Int) : RV C m U (aggI l) (.agg (l.map (Value.int .i64)).toArray) := by
  refine .agg _ _ (by simp) (fun k u hu => ?_) (fun k x u hx hu => ?_)
  · simp only [List.getElem?_toArray, List.getElem?_map] at hu
    cases hl : l[k]? with
    | none => rw [hl] at hu; cases hu
    | some z => rw [hl] at hu; obtain rfl := Option.some.inj hu; rfl
  · simp only [List.getElem?_toArray, List.getElem?_map] at hu hx
    cases hl : l[k]? with
    | none => rw [hl] at hu; cases hu
    | some z =>
      rw [hl] at hu hx
      obtain rfl := Option.some.inj hu
      obtain rfl := Option.some.inj hx
      exact .d (.lit _)
theorem intsV_rel {C : Addr → Value → Prop} : ∀ {cs : List V} {l : List Int} {vs : List Value}, intsV cs = some l → cs.length = vs.length → (∀ (k : Nat) (x : V) (u : Value), cs[k]? = some x → vs[k]? = some u → RV C m U x u) → vs = l.map (Value.int .i64)
  | [], l, vs, h, hl, _ => by
    obtain rfl := Option.some.inj h
    have : vs = [] := List.eq_nil_of_length_eq_zero (by simpa using hl.symm)
    rw [this]; rfl
  | c :: r, l, [], h, hl, _ => by simp at hl
  | c :: r, l, v :: vs, h, hl, hr => by
    have h0 := hr 0 c v rfl rfl
    cases c with
    | d x => cases x with
      | lit z => cases z with
        | int q a => cases q with
          | i64 =>
            obtain ⟨l', h2, rfl⟩ := Option.map_eq_some_iff.1 h
            rw [h0.lit_inv, List.map_cons, ← intsV_rel h2 (by simpa using hl) fun k x u hx hu => hr (k + 1) x u (by simpa using hx) (by simpa using hu)]
          | _ => cases h
        | _ => cases h
      | lst _ => cases h
    | _ => cases h

theorem sound_makeMap {t k e : Nat} (ho : o.op = .makeMap t none) (ht : mapT P t = some (k, e)) : Sound P Γ fr hp U tk o ⟨.own tk, [], [], some (.inv (MapI P k [])), True, L⟩ := by
  intro a w m K Q hR htk hp' hd hK
  have hex : (execOp a.eval o).run P w = .ok (.value (.map (some w.heap.size))) (w.alloc (.map #[] 0)) := by
    simp only [execOp, ho, Option.map_none]; rfl
  obtain ⟨es, clock, hb, F, hs, hD⟩ := World.ownsMap_made w P k Rp
  have hR2 := hR.renewI (g := []) (w' := w.alloc (.map #[] 0)) (bk := none) (v' := .map (some w.heap.size)) (I := MapI P k []) htk
    ⟨rfl, rfl, rfl, by simp, fun k' hk' _ => Below.heap_alloc w _ k' hk'⟩ (fun _ e => by cases e) rfl (.inr rfl) (by simp) (.inl ⟨w.heap.size, es, clock, rfl, hb, F, hs, hD⟩)
  have h7 := rel_putA (o := o) hR2 hd (RV.own (C := Cw Γ.F ((tk, .inv (MapI P k [])) :: delAll hp []) (upm m tk (.map (some w.heap.size))) (w.alloc (.map #[] 0))) tk (U := also U tk) (m := upm m tk (.map (some w.heap.size))) (.inr rfl) (by rw [upm_self]; rfl))
  rw [upm_self] at h7
  exact wp_value hex (hK _ _ _ h7 (put_defers a _ _))

/-- What the memory says of a map's block. -/
theorem map_owned {k : Nat} {M : List (Int × List Int)} {g : Nat} {v : Value} (hg : blkOf v = some g) (hl : g < w.heap.size) (h : MapI P k M v w.heap[g]?) : v = .map (some g) ∧ w.ownsMap P k Rp g M.length (dM M) := by
  rcases h with ⟨b, es, clock, rfl, h2, F, hs, hD⟩ | ⟨rfl, h2⟩
  · simp only [blkOf, Option.some.injEq] at hg
    subst hg
    exact ⟨rfl, es, clock, h2, F, hs, hD⟩
  · simp [encM, blkOf] at hg
theorem map_says {k : Nat} {M : List (Int × List Int)} {g : Nat} (h : w.ownsMap P k Rp g M.length (dM M)) : MapI P k M (.map (some g)) w.heap[g]? := by
  obtain ⟨es, clock, hb, F, hs, hD⟩ := h
  exact .inl ⟨g, es, clock, rfl, hb, F, hs, hD⟩

theorem sound_putM {t i : Nat} {k : Int} {cs : List V} {mo x y : Operand} {q : Rs P} (ho : o.op = .mapUpdate t mo x y) (hm : eo fr mo = some (.own i)) (hx : eo fr x = some (.d (.lit (.int .i64 k)))) (hy : eo fr y = some (.agg cs)) (h : putM P t i k cs L (lk hp i) = some q) : Sound P Γ fr hp U tk o q := by
  cases hk : lk hp i with
  | none => rw [hk] at h; cases h
  | some b =>
  rw [hk] at h
  cases b with
  | inv I =>
    simp only [putM] at h
    split at h
    · rename_i kt e vs hmt hvs
      obtain rfl := Option.some.inj h
      intro a w m K Q hR htk hp' hd hK
      obtain ⟨⟨M, rfl⟩, hlen, h0, h1⟩ := hp'
      have hM := mapM_MapI P kt M
      generalize mapM' P kt (MapI P kt M) = M1 at hK hlen hM
      subst hM
      obtain ⟨ht, hki⟩ := mapT_eq hmt
      obtain ⟨g, hg, hgl, hI⟩ := HBinv hR hk
      obtain ⟨em, hown⟩ := map_owned hg hgl hI
      have hrx := eo_rel hR hm
      have ex : a.eval mo = m i := by generalize a.eval mo = cx at hrx; cases hrx; rfl
      have ek : a.eval x = .int .i64 k := (eo_rel hR hx).lit_inv
      have hry := eo_rel hR hy
      obtain ⟨vs', ey, hvl, hvr⟩ : ∃ vs' : Array Value, a.eval y = .agg vs' ∧ cs.length = vs'.size ∧ ∀ (k : Nat) (x : V) (u : Value), cs[k]? = some x → vs'[k]? = some u → RV (Cw Γ.F hp m w) m U x u := by
        generalize a.eval y = cy at hry
        cases hry with
        | agg _ vs hl _ hr => exact ⟨vs, rfl, hl, hr⟩
      have evs := intsV_rel hvs (vs := vs'.toList) (by simpa using hvl) (fun k x u hx hu => hvr k x u hx (by simpa using hu))
      have ey2 : a.eval y = .agg (vs.map (Value.int .i64)).toArray := by rw [ey, ← evs]
      obtain ⟨w', hrun, hown', hgrow⟩ := hown.update (Maps.int_keyed hki) ht (by simp only [maxLen]; omega) (Maps.keyOf_int_mk hki (wf64 h0 h1)) (Rp_mk vs)
      have hex : (execOp a.eval o).run P w = .ok .skip w' := by
        simp only [execOp, ho, ex, em, ek, ey2]
        simp [hrun]
      have hold : ∀ g', g' < w.heap.size → g' ≠ g → w'.heap[g']? = w.heap[g']? := fun g' h1 h2 => hgrow.block g' h1 (fun e => h2 (Option.some.inj e))
      have hs' : w.heap.size ≤ w'.heap.size := hgrow.size
      have HW := hR.mem.written (w' := w') (b' := .inv (MapI P kt ((k, vs) :: M1))) hk hg hold hs' hgrow.os hgrow.tape hgrow.output ⟨g, hg, Nat.lt_of_lt_of_le hgl hs', by rw [em]; exact map_says hown'⟩
      have hR2 : Rel Γ fr (sto hp i (.inv (MapI P kt ((k, vs) :: M1)))) U a w' m := hR.turn (fun p v hc => hc.written hk hg hold) (fun _ _ => rfl) (fun _ h => h) HW
      exact wp_skip' hex (hK _ _ m ((rel_putA (o := o) hR2 hd (.d (.lit undef))).given fun t h => .inl h) (put_defers a _ _))
    · cases h
  | _ => cases h

theorem sound_lookA {t i : Nat} {ok : Bool} {k : Int} {mo x : Operand} {q : Rs P} (ho : o.op = .lookup t mo x ok) (hm : eo fr mo = some (.own i)) (hx : eo fr x = some (.d (.lit (.int .i64 k)))) (h : lookA P t ok k L (lk hp i) = some q) : Sound P Γ fr hp U tk o q := by
  cases hk : lk hp i with
  | none => rw [hk] at h; cases h
  | some b =>
  rw [hk] at h
  cases b with
  | inv I =>
    simp only [lookA] at h
    split at h
    · rename_i kt e hmt
      split at h
      · rename_i zs hz
        obtain rfl := Option.some.inj h
        intro a w m K Q hR htk hp' hd hK
        obtain ⟨⟨M, rfl⟩, h0, h1⟩ := hp'
        have hM := mapM_MapI P kt M
        generalize mapM' P kt (MapI P kt M) = M1 at hK hM
        subst hM
        obtain ⟨ht, hki⟩ := mapT_eq hmt
        obtain ⟨g, hg, hgl, hI⟩ := HBinv hR hk
        obtain ⟨em, hown⟩ := map_owned hg hgl hI
        have hrx := eo_rel hR hm
        have ex : a.eval mo = m i := by generalize a.eval mo = cx at hrx; cases hrx; rfl
        have ek : a.eval x = .int .i64 k := (eo_rel hR hx).lit_inv
        obtain ⟨inf, vz, hi1, hi2, hi3⟩ : ∃ inf vz, P.info? e = some inf ∧ inf.zero = some (.agg vz) ∧ intL vz.toList = some zs := by
          unfold zeroI at hz
          cases hi : P.info? e with
          | none => rw [hi] at hz; cases hz
          | some inf =>
            rw [hi] at hz
            simp only [Option.bind_some] at hz
            split at hz
            · rename_i vs hzz; exact ⟨inf, vs, rfl, hzz, hz⟩
            · cases hz
        have hzv : (zeroValue e).run P w = .ok (.agg vz) w := by simp [zeroValue, typeInfo, hi1, hi2]
        have hzr : Rp (.agg vz) = some (.agg (zs.map fun a => .lit (.int .i64 a)), []) := by rw [Rp, hi3]; rfl
        cases ok with
        | true =>
          obtain ⟨v, ps, hrun, hv⟩ := hown.look_ok (Maps.int_keyed hki) ht hzv hzr (Maps.keyOf_int_mk hki (wf64 h0 h1))
          rw [dM_at] at hv
          rw [dM_has] at hrun
          have ev := Rp_inv hv
          have hex : (execOp a.eval o).run P w = .ok (.value (.tuple #[v, .bool (getM M1 k).isSome])) w := by
            simp only [execOp, ho, ex, em, ek]
            simp [hrun]
          refine wp_value hex (hK _ _ m ((rel_putA (o := o) hR hd ?_).given fun t h => .inl h) (put_defers a _ _))
          refine .tup _ _ (by simp) (fun j x u hx hu => ?_)
          match j with
          | 0 => simp at hx hu; subst hx hu; rw [ev]; exact rv_ints _
          | 1 => simp at hx hu; subst hx hu; exact .d (.lit _)
          | j + 2 => simp at hx
        | false =>
          obtain ⟨v, ps, hrun, hv⟩ := hown.lookup (Maps.int_keyed hki) ht hzv hzr (Maps.keyOf_int_mk hki (wf64 h0 h1))
          rw [dM_at] at hv
          have ev := Rp_inv hv
          have hex : (execOp a.eval o).run P w = .ok (.value v) w := by
            simp only [execOp, ho, ex, em, ek]
            simp [hrun]
          refine wp_value hex (hK _ _ m ((rel_putA (o := o) hR hd ?_).given fun t h => .inl h) (put_defers a _ _))
          rw [ev]; exact rv_ints _
      · cases h
    · cases h
  | _ => cases h
end
end Go.Abs
